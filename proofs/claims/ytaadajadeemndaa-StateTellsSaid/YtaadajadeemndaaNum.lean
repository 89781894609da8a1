/- Numbers that are taken one by one: L.Next, L.Coord. -/
import Derived.Test.YtaadajadeemndaaFlat
namespace Go.Proofs.Ytaadajadeemndaa
open Go.RowKit

/-- Block g is an L: its numbers lie in a block ahead of it. -/
def LN (w : World) (g : Nat) : Prop :=
  ∃ (A : Option Addr) (n c : Nat), w.cell? ⟨g, 0, none⟩ = some (.slice A n c) ∧ w.frozen? ⟨g, 0, none⟩ = false ∧ n ≤ c ∧ c ≤ 9223372036854775807 ∧ g < w.heap.size ∧
    (0 < n → ∃ b off : Nat, A = some ⟨b, off, none⟩ ∧ b < g ∧ ∀ j, j < n → ∃ z : Int, w.cell? ⟨b, off + j, none⟩ = some (.int .i64 z))

theorem LN_set {w : World} {g : Nat} {A : Option Addr} {n c : Nat} {u : Value} (hc : w.cell? ⟨g, 0, none⟩ = some u) (hf : w.frozen? ⟨g, 0, none⟩ = false) (hg : g < w.heap.size) (hnc : n ≤ c) (hcm : c ≤ 9223372036854775807)
    (hr : 0 < n → ∃ b off : Nat, A = some ⟨b, off, none⟩ ∧ b < g ∧ ∀ j, j < n → ∃ z : Int, w.cell? ⟨b, off + j, none⟩ = some (.int .i64 z)) :
    LN (w.setCell ⟨g, 0, none⟩ (.slice A n c)) g ∧ w.grownBy (w.setCell ⟨g, 0, none⟩ (.slice A n c)) (some g) := by
  refine ⟨⟨A, n, c, World.cell?_setCell_same _ _ _ hc, ?_, hnc, hcm, by simpa [World.setCell] using hg, fun h0 => ?_⟩, ⟨rfl, rfl, rfl, by simp [World.setCell], fun k _ hk => heap_setCell_other w ⟨g, 0, none⟩ k _ (fun e => hk (by simp [e]))⟩⟩
  · rw [World.frozen?_setCell]; exact hf
  · obtain ⟨b, off, rfl, hb, hz⟩ := hr h0
    exact ⟨b, off, rfl, hb, fun j hj => by
      obtain ⟨z, hz⟩ := hz j hj
      exact ⟨z, by rw [World.cell?_setCell_other _ _ _ _ (by intro e; injection e; omega)]; exact hz⟩⟩

end Go.Proofs.Ytaadajadeemndaa
