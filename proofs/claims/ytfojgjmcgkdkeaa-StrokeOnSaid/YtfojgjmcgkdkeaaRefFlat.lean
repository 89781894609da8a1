/- The reference's numbers for layer 27: Div, Near, Place, Count. -/
import Derived.Test.YtfojgjmcgkdkeaaRef
import Derived.Test.YtfojgjmcgkdkeaaEdges
namespace Go.Proofs.Ytfojgjmcgkdkeaa
open Go.RowKit

theorem tmod_sign (v n : Int) (_hn : 0 < n) : (0 ≤ v → 0 ≤ v.tmod n) ∧ (v < 0 → v.tmod n ≤ 0) := by
  refine ⟨fun h => Int.tmod_nonneg _ h, fun h => ?_⟩
  have := Int.tmod_nonneg n (a := -v) (by omega)
  rw [Int.neg_tmod] at this
  omega

theorem near_facts (v m : Int) (hv : -600000000 ≤ v ∧ v ≤ 600000000) (hm : 1 ≤ m ∧ m ≤ 16384) :
    (-600000001 ≤ v / m ∧ v / m ≤ 600000000) ∧ (-700000000 ≤ v / m * m ∧ v / m * m ≤ 700000000) ∧ v - v / m * m = v % m ∧ 0 ≤ v % m ∧ v % m < m := by
  have hb := Int.mul_ediv_add_emod v m
  have h2 := Int.emod_nonneg v (show m ≠ 0 by omega)
  have h3 := Int.emod_lt_of_pos v (show 0 < m by omega)
  have hc : v / m * m = v - v % m := by rw [Int.mul_comm]; omega
  have hd : -600000001 ≤ v / m ∧ v / m ≤ 600000000 := by
    constructor
    · apply Decidable.byContradiction; intro h
      have : m * (v / m) ≤ m * (-600000002) := Int.mul_le_mul_of_nonneg_left (by omega) (by omega)
      omega
    · apply Decidable.byContradiction; intro h
      have : m * 600000001 ≤ m * (v / m) := Int.mul_le_mul_of_nonneg_left (by omega) (by omega)
      omega
  omega

theorem run_max_int4 {P : Program} {w : World} (ts : Array TypeId) (t : TypeId) (k k' k'' k3 : IntKind) (x y z u : Int) :
    (Builtin.max_ ts t #[.int k x, .int k' y, .int k'' z, .int k3 u]).run P w = .ok (.int k (max (max (max x y) z) u)) w := by
  have h : ∀ a b : Int, (if a < b then b else a) = max a b := fun a b => by split <;> omega
  simp [Builtin.max_, Builtin.max2, h]
attribute [local go_sem] run_max_int4

theorem plc1_ref (a c b k n : Int) : a * ((n - k) * (n - k)) + c * (2 * k * (n - k)) + b * (k * k) = a * (n - k) * (n - k) + 2 * c * k * (n - k) + b * k * k := by grind

end Go.Proofs.Ytfojgjmcgkdkeaa
