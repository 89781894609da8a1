/- An array of truths in a block of its own. -/
import Derived.Test.YtacolepcpbhceaaArr
import Derived.Test.YtacolepcpbhceaaLevelP
namespace Go.Proofs.Ytacolepcpbhceaa
open Go.RowKit

def bools (l : List Bool) : List Value := l.map Value.bool
/-- Block g holds the truths xs. -/
def BarIn (w : World) (g : Nat) (t : TypeId) (xs : List Bool) : Prop := w.heap[g]? = some (.cells (bools xs).toArray t (0, 0))
section
variable {w w' : World} {g N : Nat} {t : TypeId} {F : Nat → Bool}
theorem BarIn.lt {xs : List Bool} (h : BarIn w g t xs) : g < w.heap.size := (Array.getElem?_eq_some_iff.1 h).1
theorem BarIn.at (h : BarIn w g t (arrB N F)) (i : Nat) (hi : i < N) : w.cell? ⟨g, i, none⟩ = some (.bool (F i)) := by
  rw [cell_of_row w g i _ t _ h]
  simp [bools, arrB, hi]
theorem BarIn.frozen {xs : List Bool} (h : BarIn w g t xs) (i : Nat) : w.frozen? ⟨g, i, none⟩ = false := frozen_of_row w g i _ t h
theorem BarIn.set {xs : List Bool} (h : BarIn w g t xs) (i : Nat) (v : Bool) : BarIn (w.setCell ⟨g, i, none⟩ (.bool v)) g t (xs.set i v) := by
  have := heap_setCell_same w g i _ t (.bool v) h
  unfold BarIn
  rw [this]
  congr 2
  simp [bools, List.map_set]
theorem BarIn.below {xs : List Bool} (h : BarIn w g t xs) (hb : Below w.heap.size w w') : BarIn w' g t xs := (hb.block g h.lt).trans h
theorem BarIn.new (w : World) (cs : Array Value) (t : TypeId) (xs : List Bool) (g : Nat) (hg : w.heap.size = g) (h : cs = (bools xs).toArray) : BarIn (w.alloc (.cells cs t)) g t xs := by
  subst hg; subst h
  exact heap_alloc_new w _
end

end Go.Proofs.Ytacolepcpbhceaa
