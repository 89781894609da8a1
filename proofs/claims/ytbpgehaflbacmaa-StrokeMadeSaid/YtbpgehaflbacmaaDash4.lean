/- dash.walk: a contour's way. -/
import Derived.Test.YtbpgehaflbacmaaDash3
namespace Go.Proofs.Ytbpgehaflbacmaa
open Go.RowKit

theorem filter_take (es : List Ed) (k : Nat) (h : k < es.length) : (es.take (k + 1)).filter moved = (es.take k).filter moved ++ [es[k]].filter moved := by
  rw [List.take_succ_eq_append_getElem h, List.filter_append]
theorem endX_take (x : Int) (es : List Ed) (k : Nat) (h : k < es.length) : endX x (es.take (k + 1)) = es[k].x1 := by rw [List.take_succ_eq_append_getElem h, endX_snoc]
theorem endY_take (y : Int) (es : List Ed) (k : Nat) (h : k < es.length) : endY y (es.take (k + 1)) = es[k].y1 := by rw [List.take_succ_eq_append_getElem h, endY_snoc]
theorem piecesC_shut {c : Ct} (h : c.shut = true) : piecesC c = c.es.filter moved ++ [backE c].filter moved := by
  unfold piecesC; rw [h]; cases hm : moved (backE c) <;> simp [hm]
theorem piecesC_open {c : Ct} (h : c.shut = false) : piecesC c = c.es.filter moved := by
  unfold piecesC; rw [h]; simp
theorem backE_strt {c : Ct} (h : GoodC c) : Strt (backE c) := by
  obtain ⟨h1, h2⟩ := end_co h.2.1 h.2.2.1 h.2.2.2
  have h3 := h.2.2
  rw [co_iff, co_iff] at h3
  rw [co_iff] at h1 h2
  exact ⟨rfl, edOK_mk h1 h2 (by omega) (by omega) h3.1 h3.2 (.inr ⟨rfl, rfl⟩)⟩
/-- What the way's two rows are when it is handed back. -/
theorem WSt.out {w : World} {g m n : Nat} {ps : List Ed} (h : WSt w g m n ps) (hb : ∀ e ∈ ps, Strt e ∧ moved e = true) (hn : n ≤ 1000) :
    ∃ (Ap Ae : Option Addr) (cp ce : Nat), w.cell? ⟨g, 0, none⟩ = some (.slice Ap n cp) ∧ w.cell? ⟨g, 1, none⟩ = some (.slice Ae n ce) ∧ Hid (∀ (w' : World) (k : Nat), k < g + 1 → w.grownBy w' (some k) → WayIn w' Ap Ae n ps) ∧ Hid (∀ a, Ap = some a ∨ Ae = some a → g + 1 ≤ a.block) := by
  obtain ⟨Ap, Ae, cp, ce, _, hl, c0, c1, f0, f1, hg', hA, hE⟩ := h
  refine ⟨Ap, Ae, cp, ce, c0, c1, fun w' k hk hg => ⟨hl, hn, hb, own_sl (own_gg hA hg hk), own_sl (own_gg hE hg hk)⟩, fun a ha => ?_⟩
  rcases ha with rfl | rfl
  · exact (hA.lt _ rfl).1
  · exact (hE.lt _ rfl).1
theorem two_set {w : World} {g : Nat} {u0 u1 v0 v1 : Value} (r0 : w.cell? ⟨g, 0, none⟩ = some u0) (r1 : w.cell? ⟨g, 1, none⟩ = some u1) :
    ((w.setCell ⟨g, 0, none⟩ v0).setCell ⟨g, 1, none⟩ v1).cell? ⟨g, 0, none⟩ = some v0 ∧ ((w.setCell ⟨g, 0, none⟩ v0).setCell ⟨g, 1, none⟩ v1).cell? ⟨g, 1, none⟩ = some v1 := by
  have h0 : (w.setCell ⟨g, 0, none⟩ v0).cell? ⟨g, 0, none⟩ = some v0 := World.cell?_setCell_same _ _ _ r0
  have h1 : (w.setCell ⟨g, 0, none⟩ v0).cell? ⟨g, 1, none⟩ = some u1 := by rw [World.cell?_setCell_other w ⟨g, 0, none⟩ ⟨g, 1, none⟩ _ (by simp)]; exact r1
  refine ⟨?_, World.cell?_setCell_same _ _ _ h1⟩
  rw [World.cell?_setCell_other _ ⟨g, 1, none⟩ ⟨g, 0, none⟩ _ (by simp)]; exact h0
end Go.Proofs.Ytbpgehaflbacmaa
