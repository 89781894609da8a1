/- tympanlaw33: the document's examples, styles and points by numbers. -/
import Derived.Test.YtacolepcpbhceaaStroke5
import Derived.Test.YtacolepcpbhceaaMade
import Derived.Test.YtacolepcpbhceaaAllP
namespace Go.Proofs.Ytacolepcpbhceaa
open Go.RowKit

def styI (v : Int) : Sy := ⟨placeI v 1048576 / 6 % 130, placeI v 1048576 % 3, placeI v 1048576 / 3 % 2⟩
def pntI (v : Int) : Int := placeI v 480 - 100
theorem styI_ok (v : Int) : 0 ≤ (styI v).wide ∧ (styI v).wide < 130 ∧ 0 ≤ (styI v).cap ∧ (styI v).cap ≤ 2 ∧ 0 ≤ (styI v).join ∧ (styI v).join ≤ 1 := by
  unfold styI; dsimp only; omega
theorem pntI_ok (v : Int) : -100 ≤ pntI v ∧ pntI v ≤ 379 := by unfold pntI placeI; omega

theorem Place_big2 (v n : Int) (w : World) (hn : 0 < n) (hn' : n ≤ 2000000) :
    Calls Try.prog 14 #[.int .i64 v, .int .i64 n] w fun e w' => e = .returned (.int .i64 (placeI v n)) ∧ w = w' := by
  obtain ⟨h1, h2, h3, h4⟩ := tmod_emod v n hn
  have H3 := Lib.hid h3
  have H4 := Lib.hid h4
  clear h3 h4
  by_cases h : v.tmod n < 0
  · go_enter Try.func14, Try.ntmps14
    go_wp2
    go_ret
    exact ⟨ret_int (H3.out h), rfl⟩
  · go_enter Try.func14, Try.ntmps14
    go_wp2
    go_ret
    exact ⟨ret_int (H4.out h), rfl⟩

theorem kn1 : inL (oneL 0 0 16 0) ⟨8, 0, 0⟩ 8 4 = true := by decide
theorem kn2 : inL (oneL 0 0 16 0) ⟨8, 0, 0⟩ 8 5 = false := by decide
theorem kn3 : inL (oneL 0 0 16 0) ⟨8, 0, 0⟩ (-1) 0 = false := by decide
theorem kn4 : inL (oneL 0 0 16 0) ⟨8, 2, 0⟩ (-4) 4 = true := by decide
theorem kn5 : inL (oneL 0 0 16 0) ⟨8, 2, 0⟩ (-5) 0 = false := by decide
theorem kn6 : inL [⟨1, 8, 8, 0, 0⟩, ⟨4, 0, 0, 0, 0⟩] ⟨16, 1, 0⟩ 8 16 = true := by decide
theorem kn7 : inL [⟨1, 8, 8, 0, 0⟩, ⟨4, 0, 0, 0, 0⟩] ⟨16, 1, 0⟩ 14 14 = false := by decide

theorem cell_at {w : World} (cs : Array Value) (t : TypeId) (j g : Nat) (hg : w.heap.size = g) : (w.alloc (.cells cs t)).cell? ⟨g, j, none⟩ = cs[j]? := by subst hg; exact new_cell _ j
theorem cell_at1 {w : World} (cs : Array Value) (t : TypeId) (o : Obj) (j g : Nat) (hg : w.heap.size = g) : ((w.alloc (.cells cs t)).alloc o).cell? ⟨g, j, none⟩ = cs[j]? :=
  (later_cell (bal (Below.refl _ _) _) (by simp; omega)).trans (cell_at cs t j g hg)
theorem cell_at2 {w : World} (cs : Array Value) (t : TypeId) (o o' : Obj) (j g : Nat) (hg : w.heap.size = g) : (((w.alloc (.cells cs t)).alloc o).alloc o').cell? ⟨g, j, none⟩ = cs[j]? :=
  (later_cell (bal (bal (Below.refl _ _) _) _) (by simp; omega)).trans (cell_at cs t j g hg)

end Go.Proofs.Ytacolepcpbhceaa
