/- tympanlaw26.Edge: an edge by numbers. -/
import Derived.Test.YtaphmonpdnbiiaaNum
namespace Go.Proofs.Ytaphmonpdnbiiaa
open Go.RowKit

section
variable {w w' w2 : World} {g : Nat}
theorem LN_below (h : LN w g) (hb : Below w.heap.size w w') : LN w' g := by
  obtain ⟨A, n, c, hc, hf, hnc, hcm, hg, hr⟩ := h
  refine ⟨A, n, c, (later_cell hb hg).trans hc, (later_frozen hb hg).trans hf, hnc, hcm, Nat.lt_of_lt_of_le hg hb.size, fun h0 => ?_⟩
  obtain ⟨b, off, rfl, hlt, hz⟩ := hr h0
  exact ⟨b, off, rfl, hlt, fun j hj => by
    obtain ⟨z, hz⟩ := hz j hj
    exact ⟨z, (later_cell hb (by omega)).trans hz⟩⟩
theorem LN_alloc (h : LN w g) (o : Obj) : LN (w.alloc o) g := LN_below h (bal (Below.refl _ _) o)
theorem LN_set_other (h : LN w g) {b o : Nat} (hb : g < b) (u : Value) : LN (w.setCell ⟨b, o, none⟩ u) g := by
  obtain ⟨A, n, c, hc, hf, hnc, hcm, hg, hr⟩ := h
  refine ⟨A, n, c, ?_, ?_, hnc, hcm, by simpa [World.setCell] using hg, fun h0 => ?_⟩
  · rw [World.cell?_setCell_other _ _ _ _ (by intro e; injection e; omega)]; exact hc
  · rw [World.frozen?_setCell]; exact hf
  · obtain ⟨b', off, rfl, hlt, hz⟩ := hr h0
    exact ⟨b', off, rfl, hlt, fun j hj => by
      obtain ⟨z, hz⟩ := hz j hj
      exact ⟨z, by rw [World.cell?_setCell_other _ _ _ _ (by intro e; injection e; omega)]; exact hz⟩⟩
theorem gtr (h : w.grownBy w' (some g)) (h' : w'.grownBy w2 (some g)) : w.grownBy w2 (some g) :=
  ⟨h'.os.trans h.os, h'.tape.trans h.tape, h'.output.trans h.output, Nat.le_trans h.size h'.size, fun k hk hne => (h'.block k (Nat.lt_of_lt_of_le hk h.size) hne).trans (h.block k hk hne)⟩
theorem grefl (w : World) (g : Option Nat) : w.grownBy w g := ⟨rfl, rfl, rfl, Nat.le_refl _, fun _ _ _ => rfl⟩
theorem gbel (h : w.grownBy w' (some g)) (h' : Below w'.heap.size w' w2) : w.grownBy w2 (some g) :=
  ⟨h'.os.trans h.os, h'.tape.trans h.tape, h'.output.trans h.output, Nat.le_trans h.size h'.size, fun k hk hne => (h'.block k (Nat.lt_of_lt_of_le hk h.size)).trans (h.block k hk hne)⟩
theorem gal (h : w.grownBy w' (some g)) (o : Obj) : w.grownBy (w'.alloc o) (some g) := gbel h (bal (Below.refl _ _) o)
theorem gset (h : w.grownBy w' (some g)) {b o : Nat} (hb : w.heap.size ≤ b) (u : Value) : w.grownBy (w'.setCell ⟨b, o, none⟩ u) (some g) :=
  ⟨h.os, h.tape, h.output, by simpa [World.setCell] using h.size, fun k hk hne => (heap_setCell_other w' ⟨b, o, none⟩ k u (by simp; omega)).trans (h.block k hk hne)⟩
theorem gcell (h : w.grownBy w' (some g)) : (∀ b o, b < w.heap.size → ¬ b = g → w'.cell? ⟨b, o, none⟩ = w.cell? ⟨b, o, none⟩) ∧ (∀ b o, b < w.heap.size → ¬ b = g → w'.frozen? ⟨b, o, none⟩ = w.frozen? ⟨b, o, none⟩) ∧ w.heap.size ≤ w'.heap.size :=
  ⟨fun b o hb hne => World.cell?_of_block (a := ⟨b, o, none⟩) (h.block b hb (by simpa using hne)), fun b o hb hne => World.frozen?_of_block (a := ⟨b, o, none⟩) (h.block b hb (by simpa using hne)), h.size⟩
theorem keepb {b : Nat} {o : Obj} (k : Hid (w.heap[b]? = some o)) (h : w.grownBy w' (some g)) (hne : ¬ b = g) : Hid (w'.heap[b]? = some o) := by
  have hb : b < w.heap.size := (Array.getElem?_eq_some_iff.1 k.out).1
  exact (h.block b hb (by simpa using hne)).trans k.out
theorem hid_lt {b : Nat} {o : Obj} (k : Hid (w.heap[b]? = some o)) : b < w.heap.size := (Array.getElem?_eq_some_iff.1 k.out).1
theorem blk_cell {b : Nat} {cs : Array Value} {t : TypeId} (i : Nat) (k : Hid (w.heap[b]? = some (.cells cs t (0, 0)))) : w.cell? ⟨b, i, none⟩ = cs[i]? := cell_of_row w b i cs t _ k.out
theorem blk_frozen {b : Nat} {cs : Array Value} {t : TypeId} (i : Nat) (k : Hid (w.heap[b]? = some (.cells cs t (0, 0)))) : w.frozen? ⟨b, i, none⟩ = false := frozen_of_row w b i cs t k.out
end

/-- A slice of numbers that came in. -/
def InA (w : World) (A : Option Addr) (n : Nat) : Prop := 0 < n → ∃ b off : Nat, A = some ⟨b, off, none⟩ ∧ b < w.heap.size ∧ ∀ j, j < n → ∃ z : Int, w.cell? ⟨b, off + j, none⟩ = some (.int .i64 z)
theorem InA.below {w w' : World} {A : Option Addr} {n : Nat} (h : InA w A n) (hb : Below w.heap.size w w') : InA w' A n := fun h0 => by
  obtain ⟨b, off, e, hlt, hz⟩ := h h0
  exact ⟨b, off, e, Nat.lt_of_lt_of_le hlt hb.size, fun j hj => by obtain ⟨z, hz⟩ := hz j hj; exact ⟨z, (later_cell hb hlt).trans hz⟩⟩
theorem LN_new {w : World} {A : Option Addr} {n c g : Nat} {t : TypeId} (h : InA w A n) (hnc : n ≤ c) (hcm : c ≤ 9223372036854775807) (hg : w.heap.size = g) : LN (w.alloc (.cells #[.slice A n c] t)) g := by
  subst hg
  refine ⟨A, n, c, new_cell _ 0, frozen_of_row _ _ _ _ _ (heap_alloc_new w _), hnc, hcm, by simp, fun h0 => ?_⟩
  obtain ⟨b, off, e, hlt, hz⟩ := h h0
  exact ⟨b, off, e, hlt, fun j hj => by obtain ⟨z, hz⟩ := hz j hj; exact ⟨z, (later_cell (bal (Below.refl _ _) _) hlt).trans hz⟩⟩

end Go.Proofs.Ytaphmonpdnbiiaa
