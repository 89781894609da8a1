/- Structs that lie whole in a block: read, written and handed back whole, their cells a list. -/
import Derived.Test.YtaphmonpdnbiiaaMMat
import Derived.Deep.MidRow
import Derived.Laws.ResultCell
namespace Go.Proofs.Ytaphmonpdnbiiaa
open Go.RowKit

def RecT (P : Program) (t : TypeId) (n : Nat) : Prop := ∃ d, P.underlying t = some d ∧ d.isRow = true ∧ (P.info? t).map (·.size) = some n
theorem BC.range {w : World} {g : Nat} {C : List Value} (h : BC w g C) : w.rangeAt g 0 C := fun j v hv => by rw [Nat.zero_add]; exact h.c j v hv
theorem BC.there {w : World} {g : Nat} {C : List Value} (h : BC w g C) : w.there g 0 C.length := fun j hj => by
  rw [Nat.zero_add]
  exact ⟨by rw [h.c j _ (List.getElem?_eq_getElem hj)]; rfl, h.nf j⟩
theorem setCells_size (g : Nat) : ∀ (vs : List Value) (o : Nat) (w : World), (w.setCells g o vs).heap.size = w.heap.size
  | [], _, _ => rfl
  | v :: r, o, w => by rw [World.setCells, setCells_size g r]; simp [World.setCell]
theorem BC.putAll {w : World} {g : Nat} {C : List Value} (h : BC w g C) (vs : List Value) (hl : C.length = vs.length) : BC (w.setCells g 0 vs) g vs := by
  refine ⟨by rw [setCells_size]; exact h.lt, fun i => by rw [World.frozen?_setCells]; exact h.nf i, fun j v hv => ?_⟩
  have := World.rangeAt_setCells_same w g 0 vs (by rw [← hl]; exact h.there) j v hv
  rwa [Nat.zero_add] at this
theorem BC.apart {w : World} {g k : Nat} {C : List Value} (h : BC w k C) (hk : k ≠ g) (o : Nat) (vs : List Value) : BC (w.setCells g o vs) k C := by
  refine ⟨by rw [setCells_size]; exact h.lt, fun i => by rw [World.frozen?_setCells]; exact h.nf i, fun j v hv => ?_⟩
  rw [World.cell?_setCells_out g vs o w _ (fun e _ => absurd e hk)]
  exact h.c j v hv
theorem BC.apart1 {w : World} {g k : Nat} {C : List Value} (h : BC w k C) (hk : k ≠ g) (o : Nat) (v : Value) : BC (w.setCell ⟨g, o, none⟩ v) k C := h.apart hk o [v]
theorem below_setCells {B g : Nat} {w0 : World} (hBg : B ≤ g) : ∀ (vs : List Value) (o : Nat) (w : World), Below B w0 w → Below B w0 (w.setCells g o vs)
  | [], _, _, h => h
  | v :: r, o, _, h => below_setCells hBg r (o + 1) _ (h.setCell (p := ⟨g, o, none⟩) hBg v)
theorem setCell_heap (w : World) (g o k : Nat) (v : Value) (hk : k ≠ g) : (w.setCell ⟨g, o, none⟩ v).heap[k]? = w.heap[k]? := by
  simp [World.setCell, Array.getElem?_modify, Ne.symm hk]
theorem own_setCell {w : World} {base : Nat} {e : TypeId} {s n : Nat} {v : Value} {xs : List Value} (h : w.ownsRow base e s v n xs) {g : Nat} (hg : g < base) (o : Nat) (u : Value) : (w.setCell ⟨g, o, none⟩ u).ownsRow base e s v n xs := by
  refine ⟨h.1, ?_⟩
  rcases h.2 with h0 | ⟨k, cap, cur, hv, hb, hh, rest⟩
  · exact .inl h0
  · exact .inr ⟨k, cap, cur, hv, hb, by rw [setCell_heap _ _ _ _ _ (by omega)]; exact hh, rest⟩
theorem own_setCells {base : Nat} {e : TypeId} {s n : Nat} {v : Value} {xs : List Value} {g : Nat} (hg : g < base) : ∀ (vs : List Value) (o : Nat) (w : World), w.ownsRow base e s v n xs → (w.setCells g o vs).ownsRow base e s v n xs
  | [], _, _, h => h
  | u :: r, o, _, h => own_setCells hg r (o + 1) _ (own_setCell h hg o u)
section
variable {P : Program} {ops : Array Oper} {rest : List Oper} {op : Oper} {a : Act} {w : World} {Q : Exit → Act → World → Prop}
theorem wpList_load_rec (hgd : op.guard = none) (t : TypeId) (x : Operand) (ho : op.op = .load t x) (g : Nat) (hx : a.eval x = .pointer (some ⟨g, 0, none⟩)) (C : List Value) (n : Nat) (hT : RecT P t n) (h : BC w g C) (hn : C.length = n)
    (hk : wpList P ops Q rest (a.put op.dst (.agg C.toArray)) w) : wpList P ops Q (op :: rest) a w := by
  obtain ⟨d, hu, hd, hi⟩ := hT
  exact wpList_load_mid hgd t x ho g 0 hx C d h.range hu hd (by rw [hi, hn]) hk
theorem wpList_store_rec (hgd : op.guard = none) (t : TypeId) (x y : Operand) (ho : op.op = .store t x y) (g : Nat) (vs C : List Value) (hx : a.eval x = .pointer (some ⟨g, 0, none⟩)) (hy : a.eval y = .agg vs.toArray) (n : Nat) (hT : RecT P t n)
    (h : BC w g C) (hC : C.length = n) (hv : vs.length = n) (h1 : ∀ v ∈ vs, v.oneCell' = true) (hk : wpList P ops Q rest (a.put op.dst undef) (w.setCells g 0 vs)) : wpList P ops Q (op :: rest) a w := by
  obtain ⟨d, hu, hd, hi⟩ := hT
  have ht : w.there g 0 vs.toArray.size := by have := h.there; rwa [hC, ← hv, ← List.size_toArray] at this
  have := wpList_store_mid (P := P) (ops := ops) (rest := rest) (op := op) (a := a) (w := w) (Q := Q) hgd t x y ho g 0 vs.toArray hx hy ht (by rw [hi, List.size_toArray, hv]) (all_oneCell_toArray h1)
  exact this hk
theorem loadVar_rec {t : TypeId} {n g : Nat} {C : List Value} (hT : RecT P t n) (h : BC w g C) (hn : C.length = n) : (loadVar t ⟨g, 0, none⟩).run P w = .ok (.agg C.toArray) w := by
  obtain ⟨d, hu, hd, hi⟩ := hT
  exact run_loadVar_mid w g 0 t C d h.range hu hd (by rw [hi, hn])
theorem result_rec {fn : Func} {p u : Tmp} {t : TypeId} {n g : Nat} {C : List Value} (hf : fn.results = #[.cell p t, .tmp u]) {tmps : Array Value} {v : Value} (hp : tmps.getD p undef = .pointer (some ⟨g, 0, none⟩)) (hu : tmps.getD u undef = v)
    (hT : RecT P t n) (h : BC w g C) (hn : C.length = n) : (results fn tmps).run P w = .ok (.tuple #[.agg C.toArray, v]) w := by
  rw [results_cell_tmp hf, hp, hu]
  have ha : (asAddr (.pointer (some ⟨g, 0, none⟩))).run P w = .ok ⟨g, 0, none⟩ w := by go_simp
  simp only [ha, Result.andThen, loadVar_rec hT h hn]
theorem result_rec1 {fn : Func} {p : Tmp} {t : TypeId} {n g : Nat} {C : List Value} (hf : fn.results = #[.cell p t]) {tmps : Array Value} (hp : tmps.getD p undef = .pointer (some ⟨g, 0, none⟩))
    (hT : RecT P t n) (h : BC w g C) (hn : C.length = n) : (results fn tmps).run P w = .ok (.agg C.toArray) w := by
  have ha : (asAddr (.pointer (some ⟨g, 0, none⟩))).run P w = .ok ⟨g, 0, none⟩ w := by go_simp
  rw [Array.getD_eq_getD_getElem?] at hp
  simp only [results, hf]
  simp [Sem.run_bind, Result.andThen, hp, ha, loadVar_rec hT h hn]
end
end Go.Proofs.Ytaphmonpdnbiiaa
