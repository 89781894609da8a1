/- The walks of layer 27's numbers: Place, size, over. -/
import Derived.Test.YtaphmonpdnbiiaaProg
import Derived.Test.YtaphmonpdnbiiaaAllP
import Derived.Deep.Light
import Derived.Laws.BitsAllLaws
import Derived.Laws.BitsLemmas
namespace Go.Proofs.Ytaphmonpdnbiiaa
open Go.RowKit

theorem tmod_emod (v n : Int) (hn : 0 < n) : -n < v.tmod n ∧ v.tmod n < n ∧ (v.tmod n < 0 → v.tmod n + n = v % n) ∧ (¬ v.tmod n < 0 → v.tmod n = v % n) := by
  have h1 : v.tmod n < n := Int.tmod_lt_of_pos v hn
  have h2 : -n < v.tmod n := by
    have := Int.tmod_lt_of_pos (-v) hn
    rw [Int.neg_tmod] at this; omega
  have h3 : (v.tmod n) % n = v % n := by
    have h := Int.mul_tdiv_add_tmod v n
    have e : v % n = (n * v.tdiv n + v.tmod n) % n := by rw [h]
    rw [e, Int.add_comm, Int.add_mul_emod_self_left]
  refine ⟨h2, h1, fun h => ?_, fun h => ?_⟩
  · rw [← h3, ← Int.add_emod_right, Int.emod_eq_of_lt (by omega) (by omega)]
  · rw [← h3, Int.emod_eq_of_lt (by omega) h1]

theorem tdiv_floor (v n : Int) (hn : 0 < n) : (v.tmod n < 0 → v.tdiv n - 1 = v / n) ∧ (¬ v.tmod n < 0 → v.tdiv n = v / n) := by
  obtain ⟨h1, h2, h3, h4⟩ := tmod_emod v n hn
  have ha := Int.mul_tdiv_add_tmod v n
  have hb := Int.mul_ediv_add_emod v n
  refine ⟨fun h => ?_, fun h => ?_⟩
  · have := h3 h
    have e : n * (v.tdiv n - 1) = n * (v / n) := by rw [Int.mul_sub, Int.mul_one]; omega
    exact Int.eq_of_mul_eq_mul_left (by omega) e
  · have := h4 h
    have e : n * (v.tdiv n) = n * (v / n) := by omega
    exact Int.eq_of_mul_eq_mul_left (by omega) e

theorem i64_and_one (q : Int) : bits .and .i64 q 1 = q % 2 := by
  show IntKind.i64.wrap ((BitVec.ofInt 64 q &&& BitVec.ofInt 64 1).toNat : Int) = _
  have h : (BitVec.ofInt 64 q &&& BitVec.ofInt 64 1).toNat = (q % 2).toNat := by
    rw [BitVec.toNat_and]
    have : (BitVec.ofInt 64 1).toNat = 1 := by decide
    rw [this, Nat.and_one_is_mod, BitVec.toNat_ofInt]
    omega
  rw [h, IntKind.wrap_i64]
  omega

set_option maxHeartbeats 400000 in
theorem Place_any (v n : Int) (w : World) (hn : 0 < n) (hn' : n ≤ 1000000) :
    Calls Try.prog 7 #[.int .i64 v, .int .i64 n] w fun e w' => e = .returned (.int .i64 (placeI v n)) ∧ w = w' := by
  obtain ⟨h1, h2, h3, h4⟩ := tmod_emod v n hn
  have H3 := Lib.hid h3
  have H4 := Lib.hid h4
  clear h3 h4
  by_cases h : v.tmod n < 0
  · go_enter Try.func7, Try.ntmps7
    go_wp2
    go_ret
    exact ⟨ret_int (H3.out h), rfl⟩
  · go_enter Try.func7, Try.ntmps7
    go_wp2
    go_ret
    exact ⟨ret_int (H4.out h), rfl⟩

theorem over_facts (v m : Int) (hv : -600000000 ≤ v ∧ v ≤ 600000000) (hm : 1 ≤ m ∧ m ≤ 16384) :
    (-600000000 ≤ v.tdiv m ∧ v.tdiv m ≤ 600000000) ∧ (-700000000 ≤ v.tdiv m * m ∧ v.tdiv m * m ≤ 700000000) ∧ (-700000000 ≤ (v.tdiv m - 1) * m ∧ (v.tdiv m - 1) * m ≤ 700000000) := by
  obtain ⟨h1, h2, _, _⟩ := tmod_emod v m (by omega)
  have ha := Int.mul_tdiv_add_tmod v m
  have hb : v.tdiv m * m = v - v.tmod m := by rw [Int.mul_comm]; omega
  have hc : (v.tdiv m - 1) * m = v.tdiv m * m - m := by rw [Int.sub_mul, Int.one_mul]
  have hd : -600000000 ≤ v.tdiv m ∧ v.tdiv m ≤ 600000000 := by
    constructor
    · apply Decidable.byContradiction; intro h
      have : m * v.tdiv m ≤ m * (-600000001) := Int.mul_le_mul_of_nonneg_left (by omega) (by omega)
      omega
    · apply Decidable.byContradiction; intro h
      have : m * 600000001 ≤ m * v.tdiv m := Int.mul_le_mul_of_nonneg_left (by omega) (by omega)
      omega
  omega
theorem over_lo {v m q x : Int} (hq : q = v / m) (_hm : 0 < m) (h1 : 2 * (v - q * m) ≤ m) (h2 : ¬ 2 * (v - q * m) = m ∨ (bits BinOp.and IntKind.i64 q 1 != 0) = false) (hx : x = q) : x = rnd v m := by
  subst hq; subst hx
  have e : v - v / m * m = v % m := by have := Int.mul_ediv_add_emod v m; rw [Int.mul_comm (v / m) m]; omega
  rw [e] at h1 h2
  rw [i64_and_one] at h2
  unfold rnd
  rw [if_neg]
  rintro (h | ⟨h, h'⟩)
  · omega
  · rcases h2 with h2 | h2
    · exact h2 h
    · simp at h2; omega
theorem over_hi {v m q x : Int} (hq : q = v / m) (_hm : 0 < m) (h : m < 2 * (v - q * m) ∨ (2 * (v - q * m) = m ∧ (bits BinOp.and IntKind.i64 q 1 != 0) = true)) (hx : x = q + 1) : x = rnd v m := by
  subst hq; subst hx
  have e : v - v / m * m = v % m := by have := Int.mul_ediv_add_emod v m; rw [Int.mul_comm (v / m) m]; omega
  rw [e] at h
  rw [i64_and_one] at h
  unfold rnd
  rw [if_pos]
  rcases h with h | ⟨h, h'⟩
  · exact .inl h
  · refine .inr ⟨h, ?_⟩
    simp at h'; omega

end Go.Proofs.Ytaphmonpdnbiiaa
