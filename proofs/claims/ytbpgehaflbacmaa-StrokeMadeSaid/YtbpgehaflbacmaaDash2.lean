/- Places on a contour: way.long, way.at. -/
import Derived.Test.YtbpgehaflbacmaaDash1
import Derived.Test.YtbpgehaflbacmaaAllP
import Derived.Deep.RegionHeld3
import Derived.IntWalk
namespace Go.Proofs.Ytbpgehaflbacmaa
open Go.RowKit

/-- A contour's pieces in memory, and where each one ends. -/
structure WayIn (w : World) (Ap Ae : Option Addr) (n : Nat) (ps : List Ed) : Prop where
  len : ps.length = n
  few : n ≤ 1000
  all : ∀ e ∈ ps, Strt e ∧ moved e = true
  p : Sl w 7 Ap n (eds ps)
  e : Sl w 1 Ae n (ints (endsL ps))
theorem WayIn.below {w w' : World} {Ap Ae : Option Addr} {n : Nat} {ps : List Ed} (h : WayIn w Ap Ae n ps) (hb : Below w.heap.size w w') : WayIn w' Ap Ae n ps := ⟨h.len, h.few, h.all, h.p.below hb, h.e.below hb⟩
theorem WayIn.endAt {w : World} {Ap Ae : Option Addr} {n : Nat} {ps : List Ed} (h : WayIn w Ap Ae n ps) (k : Nat) (hk : k < n) :
    ∃ b off : Nat, Ae = some ⟨b, off, none⟩ ∧ b < w.heap.size ∧ w.cell? ⟨b, off + k, none⟩ = some (.int .i64 (sumL (ps.take (k + 1)))) := by
  have hl : k < (endsL ps).length := by rw [endsL_len, h.len]; exact hk
  obtain ⟨b, off, e, hb, hc⟩ := h.e.intAt k hk hl
  rw [endsL_get] at hc
  exact ⟨b, off, e, hb, hc⟩
theorem WayIn.sum {w : World} {Ap Ae : Option Addr} {n : Nat} {ps : List Ed} (h : WayIn w Ap Ae n ps) (k : Nat) : 0 ≤ sumL (ps.take k) ∧ sumL (ps.take k) ≤ sumL ps ∧ sumL ps ≤ 23167000 := by
  have h1 := sumL_bd (l := ps) (fun e he => (h.all e he).1.2)
  have h2 := h.len
  have h3 := h.few
  exact ⟨sumL_nonneg _, sumL_take_le _ _, by omega⟩

/-- What a place's numbers are bounded by. -/
theorem at_bd {x0 x1 m k : Int} (h0 : -8191 ≤ x0 ∧ x0 ≤ 8191) (h1 : -8191 ≤ x1 ∧ x1 ≤ 8191) (hm : 1 ≤ m ∧ m ≤ 23167) (hk : 0 ≤ k ∧ k ≤ m) :
    (-190000000 ≤ x0 * m ∧ x0 * m ≤ 190000000) ∧ (-380000000 ≤ (x1 - x0) * k ∧ (x1 - x0) * k ≤ 380000000) := by
  have a := mul_bd (a := x0) (b := m) (A := 8191) (B := 23167) h0 (by omega)
  have b := mul_bd (a := x1 - x0) (b := k) (A := 16382) (B := 23167) (by omega) (by omega)
  omega

theorem keep8 {W w' : World} {g b o : Nat} {u v0 v1 v2 v3 v4 v5 v6 : Value} (hb : Below W.heap.size W w') (hg : g < W.heap.size) (hlt : b < W.heap.size)
    (h : W.cell? ⟨g, 0, none⟩ = some u ∧ W.cell? ⟨b, o, none⟩ = some v0 ∧ W.cell? ⟨b, o + 1, none⟩ = some v1 ∧ W.cell? ⟨b, o + 2, none⟩ = some v2 ∧ W.cell? ⟨b, o + 3, none⟩ = some v3 ∧ W.cell? ⟨b, o + 4, none⟩ = some v4 ∧ W.cell? ⟨b, o + 5, none⟩ = some v5 ∧ W.cell? ⟨b, o + 6, none⟩ = some v6) :
    w'.cell? ⟨g, 0, none⟩ = some u ∧ w'.cell? ⟨b, o, none⟩ = some v0 ∧ w'.cell? ⟨b, o + 1, none⟩ = some v1 ∧ w'.cell? ⟨b, o + 2, none⟩ = some v2 ∧ w'.cell? ⟨b, o + 3, none⟩ = some v3 ∧ w'.cell? ⟨b, o + 4, none⟩ = some v4 ∧ w'.cell? ⟨b, o + 5, none⟩ = some v5 ∧ w'.cell? ⟨b, o + 6, none⟩ = some v6 := by
  obtain ⟨h', h0, h1, h2, h3, h4, h5, h6⟩ := h
  exact ⟨(later_cell hb hg).trans h', (later_cell hb hlt).trans h0, (later_cell hb hlt).trans h1, (later_cell hb hlt).trans h2, (later_cell hb hlt).trans h3, (later_cell hb hlt).trans h4, (later_cell hb hlt).trans h5, (later_cell hb hlt).trans h6⟩

theorem bset7 {W w : World} {g : Nat} {v0 v1 v2 v3 v4 v5 v6 : Value} (h : Below W.heap.size W w) (hg : W.heap.size ≤ g) :
    Below W.heap.size W (((((((w.setCell ⟨g, 0, none⟩ v0).setCell ⟨g, 1, none⟩ v1).setCell ⟨g, 2, none⟩ v2).setCell ⟨g, 3, none⟩ v3).setCell ⟨g, 4, none⟩ v4).setCell ⟨g, 5, none⟩ v5).setCell ⟨g, 6, none⟩ v6) :=
  bset (bset (bset (bset (bset (bset (bset h hg _) hg _) hg _) hg _) hg _) hg _) hg _
theorem cell7 {w : World} {g : Nat} {v0 v1 v2 v3 v4 v5 v6 : Value} {u : Nat → Value} (h : ∀ j, j < 7 → w.cell? ⟨g, j, none⟩ = some (u j)) :
    ∀ j, j < 7 → (((((((w.setCell ⟨g, 0, none⟩ v0).setCell ⟨g, 1, none⟩ v1).setCell ⟨g, 2, none⟩ v2).setCell ⟨g, 3, none⟩ v3).setCell ⟨g, 4, none⟩ v4).setCell ⟨g, 5, none⟩ v5).setCell ⟨g, 6, none⟩ v6).cell? ⟨g, j, none⟩ = #[v0, v1, v2, v3, v4, v5, v6][j]? := by
  intro j hj
  have hs : ∀ (W : World) (i : Nat) (v : Value) (x : Value), W.cell? ⟨g, j, none⟩ = some x → (W.setCell ⟨g, i, none⟩ v).cell? ⟨g, j, none⟩ = some (if i = j then v else x) := by
    intro W i v x hx
    by_cases hij : i = j
    · subst hij; rw [if_pos rfl, World.cell?_setCell_same _ _ _ hx]
    · rw [if_neg hij, World.cell?_setCell_other _ _ _ _ (by intro e; injection e; omega)]; exact hx
  rw [hs _ 6 _ _ (hs _ 5 _ _ (hs _ 4 _ _ (hs _ 3 _ _ (hs _ 2 _ _ (hs _ 1 _ _ (hs _ 0 _ _ (h j hj)))))))]
  rcases j with _ | _ | _ | _ | _ | _ | _ | j
  all_goals first | rfl | omega
theorem fz_new {V V' : World} {g : Nat} {cs : Array Value} {t : TypeId} (hb : Below (V.alloc (.cells cs t)).heap.size (V.alloc (.cells cs t)) V') (hg : V.heap.size = g) (j : Nat) :
    V'.frozen? ⟨g, j, none⟩ = false ∧ V'.cell? ⟨g, j, none⟩ = cs[j]? ∧ g < V'.heap.size := by
  subst hg
  exact ⟨(later_frozen hb (by simp)).trans (frozen_of_row _ _ _ _ _ (heap_alloc_new _ _)), (later_cell hb (by simp)).trans (new_cell _ j), Nat.lt_of_lt_of_le (by simp) hb.size⟩

end Go.Proofs.Ytbpgehaflbacmaa
