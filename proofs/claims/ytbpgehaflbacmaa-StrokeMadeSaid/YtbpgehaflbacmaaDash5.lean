/- way.part: the part of a contour from a place to a place. -/
import Derived.Test.YtbpgehaflbacmaaDash4
namespace Go.Proofs.Ytbpgehaflbacmaa
open Go.RowKit

theorem sgT2 : SlT Try.prog 24 42 5 40 := slT_of Try.underlying24 (by kernel_rfl) (by omega) (by omega)
theorem keep3 {W w' : World} {g o b i j : Nat} {u v0 v1 : Value} (hb : Below W.heap.size W w') (hg : g < W.heap.size) (hlt : b < W.heap.size)
    (h : W.cell? ⟨g, o, none⟩ = some u ∧ W.cell? ⟨b, i, none⟩ = some v0 ∧ W.cell? ⟨b, j, none⟩ = some v1) : w'.cell? ⟨g, o, none⟩ = some u ∧ w'.cell? ⟨b, i, none⟩ = some v0 ∧ w'.cell? ⟨b, j, none⟩ = some v1 := by
  obtain ⟨h', h0, h1⟩ := h
  exact ⟨(later_cell hb hg).trans h', (later_cell hb hlt).trans h0, (later_cell hb hlt).trans h1⟩
theorem inn_len (ps : List Ed) (k : Nat) (a b : Int) : (innW (ps.take k) a b).length ≤ k := by
  have h1 := innF_len (ps.take k) 0 a b
  rw [List.length_take] at h1
  unfold innW; omega

end Go.Proofs.Ytbpgehaflbacmaa
