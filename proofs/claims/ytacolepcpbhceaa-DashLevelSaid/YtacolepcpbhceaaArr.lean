/- An array of numbers in a block of its own. -/
import Derived.Test.YtacolepcpbhceaaBase
import Derived.Test.YtacolepcpbhceaaEdge
import Derived.Test.YtacolepcpbhceaaTurnP
namespace Go.Proofs.Ytacolepcpbhceaa
open Go.RowKit

/-- Block g holds the numbers xs. -/
def ArrIn (w : World) (g : Nat) (t : TypeId) (xs : List Int) : Prop := w.heap[g]? = some (.cells (ints xs).toArray t (0, 0))
section
variable {w w' : World} {g : Nat} {t : TypeId} {xs : List Int}
theorem ArrIn.lt (h : ArrIn w g t xs) : g < w.heap.size := (Array.getElem?_eq_some_iff.1 h).1
theorem ArrIn.cell (h : ArrIn w g t xs) (i : Nat) (hi : i < xs.length) : w.cell? ⟨g, i, none⟩ = some (.int .i64 xs[i]) := by
  rw [cell_of_row w g i _ t _ h]
  simp [ints, hi]
theorem ArrIn.frozen (h : ArrIn w g t xs) (i : Nat) : w.frozen? ⟨g, i, none⟩ = false := frozen_of_row w g i _ t h
theorem ArrIn.set (h : ArrIn w g t xs) (i : Nat) (v : Int) : ArrIn (w.setCell ⟨g, i, none⟩ (.int .i64 v)) g t (xs.set i v) := by
  have := heap_setCell_same w g i _ t (.int .i64 v) h
  unfold ArrIn
  rw [this]
  congr 2
  simp [ints, List.map_set]
theorem ArrIn.below (h : ArrIn w g t xs) (hb : Below w.heap.size w w') : ArrIn w' g t xs := (hb.block g h.lt).trans h
theorem ArrIn.new (w : World) (cs : Array Value) (t : TypeId) (xs : List Int) (g : Nat) (hg : w.heap.size = g) (h : cs = (ints xs).toArray) : ArrIn (w.alloc (.cells cs t)) g t xs := by
  subst hg; subst h
  exact heap_alloc_new w _
end
/-- The k-th number of an array by a rule. -/
theorem ArrIn.at {w : World} {g N : Nat} {t : TypeId} {F : Nat → Int} (h : ArrIn w g t (arr N F)) (i : Nat) (hi : i < N) : w.cell? ⟨g, i, none⟩ = some (.int .i64 (F i)) := by
  have := h.cell i (by rw [arr_len]; exact hi)
  simpa [arr] using this

end Go.Proofs.Ytacolepcpbhceaa
