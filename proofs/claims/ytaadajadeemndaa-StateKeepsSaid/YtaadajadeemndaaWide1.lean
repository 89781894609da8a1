/- wide: a number times 65536 by another one, rounded. -/
import Derived.Test.YtaadajadeemndaaMat1
import Derived.Laws.MathBits
import Derived.Laws.BitsAllLaws
namespace Go.Proofs.Ytaadajadeemndaa
open Go.RowKit Go.BigFrame

theorem u64_in {x : Int} (h0 : 0 ≤ x) (h1 : x < 18446744073709551616) : IntKind.u64.wrap x = x := by rw [IntKind.wrap_u64]; exact Int.emod_eq_of_lt h0 h1
theorem wsize_any (v : Int) (w : World) (h : -9223372036854775807 ≤ v ∧ v ≤ 9223372036854775807) :
    Calls Try.prog 125 #[.int .i64 v] w fun e w' => e = .returned (.int .u64 (v.natAbs : Int)) ∧ w = w' := by
  obtain ⟨h0, h1⟩ := h
  go_enter Try.func125, Try.ntmps125
  by_cases hv : v < 0
  · go_wp2
    go_ret
    exact ⟨ret_int (by omega), rfl⟩
  · go_wp2
    go_ret
    exact ⟨ret_int (by omega), rfl⟩
theorem or_add32 {x y : Int} (h0 : 0 ≤ x) (h1 : x < 4294967296) (h2 : 0 ≤ y) (h3 : y < 4294967296) : bits .or .u64 (x * 4294967296) y = x * 4294967296 + y := by
  rw [u64_or _ _ (by omega) (by omega) (by omega) (by omega)]
  have x2 : (x * 4294967296).toNat = x.toNat * 2 ^ 32 := by omega
  rw [x2, nat_join 32 _ _ (by rw [Nat.mul_mod_left]) (by omega), Int.natCast_add]
  omega
set_option maxRecDepth 100000 in
set_option maxHeartbeats 1000000 in
theorem wproduct_any (a : Int) (w : World) (ha : 0 ≤ a ∧ a ≤ 9223372036854775807) :
    Calls Try.prog 124 #[.int .u64 a, .int .u64 65536] w fun e w' => e = .returned (.tuple #[.int .u64 (a * 65536 / 18446744073709551616), .int .u64 (a * 65536 % 18446744073709551616)]) ∧ Below w.heap.size w w' := by
  obtain ⟨a0, a1⟩ := ha
  have e1 : bits .and .u64 a 4294967295 = a % 4294967296 := and_low32 a a0 (by omega)
  have e2 : bits .and .u64 65536 4294967295 = 65536 := rfl
  have e3 : IntKind.u64.wrap (a % 4294967296 * 65536) = a % 4294967296 * 65536 := u64_in (by omega) (by omega)
  have e4 : IntKind.u64.wrap (a / 4294967296 * 65536) = a / 4294967296 * 65536 := u64_in (by omega) (by omega)
  have e5 : bits .and .u64 (a / 4294967296 * 65536) 4294967295 = a / 4294967296 * 65536 % 4294967296 := and_low32 _ (by omega) (by omega)
  have e6 : bits .and .u64 (a % 4294967296 * 65536) 4294967295 = a % 4294967296 * 65536 % 4294967296 := and_low32 _ (by omega) (by omega)
  have e7 : bits .and .u64 0 4294967295 = 0 := rfl
  have e8 : IntKind.u64.wrap 0 = 0 := rfl
  have e9 : IntKind.u64.wrap (a % 4294967296 * 65536 / 4294967296 + a / 4294967296 * 65536 % 4294967296) = a % 4294967296 * 65536 / 4294967296 + a / 4294967296 * 65536 % 4294967296 := u64_in (by omega) (by omega)
  go_enter Try.func124, Try.ntmps124
  go_wp2
  go_quiet (fail)
  go_wp2
  go_ret2
  refine ⟨?_, bdrewN (bal (Below.refl _ _) _) _⟩
  show Ending.returned (.tuple #[.int .u64 (a / 4294967296 * 65536 / 4294967296 + (a % 4294967296 * 65536 / 4294967296 + a / 4294967296 * 65536 % 4294967296) / 4294967296),
    .int .u64 (bits BinOp.or IntKind.u64 ((a % 4294967296 * 65536 / 4294967296 + a / 4294967296 * 65536 % 4294967296) * 4294967296) (a % 4294967296 * 65536 % 4294967296))]) = _
  rw [or_add32 (by omega) (by omega) (by omega) (by omega)]
  have x1 : a / 4294967296 * 65536 / 4294967296 + (a % 4294967296 * 65536 / 4294967296 + a / 4294967296 * 65536 % 4294967296) / 4294967296 = a * 65536 / 18446744073709551616 := by omega
  have x2 : (a % 4294967296 * 65536 / 4294967296 + a / 4294967296 * 65536 % 4294967296) * 4294967296 + a % 4294967296 * 65536 % 4294967296 = a * 65536 % 18446744073709551616 := by omega
  rw [x1, x2]
theorem div_step {D M r q b : Nat} (hD : 0 < D) (hq : M / D = q) (hr : M % D = r) (hb : b ≤ 1) :
    (2 * r + b < D → (2 * M + b) / D = 2 * q ∧ (2 * M + b) % D = 2 * r + b) ∧ (D ≤ 2 * r + b → (2 * M + b) / D = 2 * q + 1 ∧ (2 * M + b) % D = 2 * r + b - D) := by
  have h1 := Nat.div_add_mod M D
  have h3 := Nat.mod_lt M hD
  rw [hq, hr] at h1
  rw [hr] at h3
  have h4 : D * (2 * q) = 2 * (D * q) := by rw [Nat.mul_left_comm]
  have h5 : D * (2 * q + 1) = 2 * (D * q) + D := by rw [Nat.mul_add, h4, Nat.mul_one]
  constructor
  · intro h
    have e : 2 * M + b = D * (2 * q) + (2 * r + b) := by omega
    rw [e, Nat.mul_add_div hD, Nat.mul_add_mod, Nat.div_eq_of_lt h, Nat.mod_eq_of_lt h]
    omega
  · intro h
    have e : 2 * M + b = D * (2 * q + 1) + (2 * r + b - D) := by omega
    have h6 : 2 * r + b - D < D := by omega
    rw [e, Nat.mul_add_div hD, Nat.mul_add_mod, Nat.div_eq_of_lt h6, Nat.mod_eq_of_lt h6]
    omega
theorem bit_of (n j : Nat) (hj : j < 64) : n % 18446744073709551616 / 2 ^ j % 2 = n / 2 ^ j % 2 := by
  have e : 18446744073709551616 = 2 ^ j * 2 ^ (64 - j) := by rw [← Nat.pow_add, show j + (64 - j) = 64 by omega]
  rw [e, Nat.mod_mul_right_div_self]
  exact Nat.mod_mod_of_dvd _ (Nat.dvd_of_mod_eq_zero (by obtain ⟨m, hm⟩ : ∃ m, 64 - j = m + 1 := ⟨63 - j, by omega⟩; rw [hm, Nat.pow_succ]; omega))
theorem half_of (n j : Nat) : n / 2 ^ j = 2 * (n / 2 ^ (j + 1)) + n / 2 ^ j % 2 := by
  rw [Nat.pow_succ, ← Nat.div_div_eq_div_mul]; omega
theorem quo_le (n d j : Nat) : n / 2 ^ j / d * 2 ^ j ≤ n / d := by
  rw [Nat.div_div_eq_div_mul, Nat.mul_comm (2 ^ j) d, ← Nat.div_div_eq_div_mul]
  exact Nat.div_mul_le_self _ _
theorem or_bit {j Q : Nat} (h : Q % 2 ^ (j + 1) = 0) (hQ : Q < 18446744073709551616) (hj : j < 64) : bits .or .u64 (Q : Int) ((2 ^ j : Nat) : Int) = ((Q + 2 ^ j : Nat) : Int) := by
  have hp : 2 ^ j < 18446744073709551616 := Nat.lt_of_lt_of_le (Nat.pow_lt_pow_right (by omega) hj) (by decide)
  rw [u64_or_nat _ _ hQ hp, nat_join (j + 1) _ _ h (Nat.pow_lt_pow_right (by omega) (by omega))]
theorem or_low {r b : Nat} (hr : r < 9223372036854775808) (hb : b ≤ 1) : bits .or .u64 ((r : Int) * 2) (b : Int) = ((2 * r + b : Nat) : Int) := by
  have e : (r : Int) * 2 = ((2 * r : Nat) : Int) := by omega
  rw [e, u64_or_nat _ _ (by omega) (by omega), nat_join1 _ _ (by omega) (by omega)]
set_option maxRecDepth 100000 in
set_option maxHeartbeats 4000000 in
theorem wparts_any (a d : Int) (n dd : Nat) (w : World) (ha : -4611686018427387904 ≤ a ∧ a ≤ 4611686018427387904) (hd : -4611686018427387904 ≤ d ∧ d ≤ 4611686018427387904) (hd0 : d ≠ 0) (hN : a.natAbs * 65536 = n) (hD : d.natAbs = dd) (hlt : n / 18446744073709551616 < dd) :
    Calls Try.prog 116 #[.int .i64 a, .int .i64 65536, .int .i64 d] w fun e w' => e = .returned (.tuple #[.int .u64 ((n / dd : Nat) : Int), .int .u64 ((n % dd : Nat) : Int), .int .u64 (dd : Int), .bool true]) ∧ Below w.heap.size w w' := by
  have HA := Lib.hid fun W => wsize_any a W (by omega)
  have HB := Lib.hid fun W => wsize_any 65536 W (by omega)
  have HD := Lib.hid fun W => wsize_any d W (by omega)
  obtain ⟨x, hx⟩ : ∃ x, a.natAbs = x := ⟨_, rfl⟩
  have HP := Lib.hid fun W => wproduct_any x W (by omega)
  rw [hx] at HA hN
  rw [hD] at HD
  have p1 : (x : Int) * 65536 / 18446744073709551616 = ((n / 18446744073709551616 : Nat) : Int) := by omega
  have p2 : (x : Int) * 65536 % 18446744073709551616 = ((n % 18446744073709551616 : Nat) : Int) := by omega
  rw [p1, p2] at HP
  have hD2 : 1 ≤ dd ∧ dd ≤ 4611686018427387904 := by omega
  have hN2 : n ≤ 302231454903657293676544 := by omega
  have hqm : n / dd < 18446744073709551616 := by
    rw [Nat.div_lt_iff_lt_mul (by omega)]
    have h := Nat.div_add_mod n 18446744073709551616
    have h2 : n / 18446744073709551616 + 1 ≤ dd := hlt
    have h3 := Nat.mul_le_mul_left 18446744073709551616 h2
    omega
  have HQM := Lib.hid hqm
  have HB2 : Hid (∀ W, Calls Try.prog 125 #[.int .i64 65536] W fun e w' => e = .returned (.int .u64 65536) ∧ W = w') := HB
  obtain ⟨lo, hlo⟩ : ∃ lo, n % 18446744073709551616 = lo := ⟨_, rfl⟩
  obtain ⟨hi, hhi⟩ : ∃ hi, n / 18446744073709551616 = hi := ⟨_, rfl⟩
  rw [hlo, hhi] at HP
  rw [hhi] at hlt
  have hlo2 : lo < 18446744073709551616 := by omega
  have HLO := Lib.hid hlo
  have HHI := Lib.hid hhi
  clear hx hN hD hd0 ha hd HB hlo hhi p1 p2 hqm hN2
  go_enter Try.func116, Try.ntmps116
  go_wp2_with fail
  refine (HA.out _).mono ?_; rintro e w1 ⟨rfl, rfl⟩
  go_wp2_with fail
  refine (HB2.out _).mono ?_; rintro e w1 ⟨rfl, rfl⟩
  go_wp2_with fail
  refine (HP.out _).mono ?_; rintro e w1 ⟨rfl, hb1⟩
  go_wp2_with fail
  refine (HD.out _).mono ?_; rintro e w2 ⟨rfl, rfl⟩
  go_wp2_with fail
  go_loopw [11, 7, 6] (fun s11 s7 s6 wr => ∃ (k r Q : Nat), k ≤ 64 ∧ s11 = .int .i64 ((k : Int) - 1) ∧ s7 = .int .u64 (r : Int) ∧ s6 = .int .u64 (Q : Int) ∧ wr = w1 ∧ r < dd ∧ Q < 18446744073709551616 ∧ Hid (n / 2 ^ k % dd = r ∧ Q = n / 2 ^ k / dd * 2 ^ k)) (fun s11 _ _ _ => (intOf s11 + 1).toNat)
  case atStart =>
    refine ⟨64, hi, 0, by omega, rfl, rfl, rfl, rfl, hlt, by omega, Lib.hid ?_⟩
    have e64 : (2 : Nat) ^ 64 = 18446744073709551616 := by decide
    rw [e64, HHI.out, Nat.mod_eq_of_lt hlt, Nat.div_eq_of_lt hlt]
    exact ⟨rfl, rfl⟩
  case round =>
    obtain ⟨k, r, Q, hk, rfl, rfl, rfl, rfl, hrD, hQ1, hI⟩ := hrel
    rcases Nat.eq_zero_or_pos k with rfl | hk0
    · have HR := Lib.hid (show r = n % dd ∧ Q = n / dd by
        obtain ⟨i1, i2⟩ := hI.out
        rw [Nat.pow_zero, Nat.div_one] at i1 i2
        exact ⟨i1.symm, by rw [i2, Nat.mul_one]⟩)
      go_wp2_with fail
      refine bodyPost_ret (v := .tuple #[.int .u64 (Q : Int), .int .u64 (r : Int), .int .u64 (dd : Int), .bool true]) (by simp [results, Try.results116, go_sem]) rfl ?_
      rw [HR.out.1, HR.out.2]
      exact ⟨rfl, hb1⟩
    · obtain ⟨j, rfl⟩ : ∃ j, k = j + 1 := ⟨k - 1, by omega⟩
      have ej : ((j + 1 : Nat) : Int) - 1 = j := by omega
      rw [ej]
      obtain ⟨b, hb⟩ : ∃ b, n / 2 ^ j % 2 = b := ⟨_, rfl⟩
      have hb1' : b ≤ 1 := by omega
      obtain ⟨P, hP⟩ : ∃ P, 2 ^ j = P := ⟨_, rfl⟩
      have hPlt : P < 18446744073709551616 := by rw [← hP]; exact Nat.lt_of_lt_of_le (Nat.pow_lt_pow_right (by omega) (show j < 64 by omega)) (by decide)
      have x1 : (2 : Int) ^ j = (P : Int) := by rw [← hP]; simp
      have x2 : bits .and .u64 ((lo : Int) / (P : Int)) 1 = (b : Int) := by
        have h3 := bit_of n j (by omega)
        rw [HLO.out, hb, hP] at h3
        obtain ⟨z, hz⟩ : ∃ z, lo / P = z := ⟨_, rfl⟩
        have h4 : (lo : Int) / (P : Int) = (z : Int) := by rw [← hz]; exact (Int.natCast_ediv lo P).symm
        have h5 : z ≤ lo := by rw [← hz]; exact Nat.div_le_self _ _
        rw [hz] at h3
        rw [h4, and_one_u64 _ (by omega) (by omega)]
        omega
      have x3 : bits .or .u64 ((r : Int) * 2) (b : Int) = ((2 * r + b : Nat) : Int) := or_low (by omega) hb1'
      obtain ⟨i1, i2⟩ := hI.out
      have hm0 : Q % 2 ^ (j + 1) = 0 := by rw [i2, Nat.mul_mod_left]
      have x4 : bits .or .u64 (Q : Int) (P : Int) = ((Q + P : Nat) : Int) := by rw [← hP]; exact or_bit hm0 hQ1 (by omega)
      have x5 : IntKind.u64.wrap (P : Int) = (P : Int) := u64_in (by omega) (by omega)
      obtain ⟨q, hq⟩ : ∃ q, n / 2 ^ (j + 1) / dd = q := ⟨_, rfl⟩
      obtain ⟨s1, s2⟩ := div_step (b := b) (show 0 < dd by omega) hq i1 hb1'
      have hM := half_of n j
      rw [hb] at hM
      rw [← hM] at s1 s2
      rw [hq, Nat.pow_succ, hP] at i2
      have hle := quo_le n dd j
      have S1 := Lib.hid s1
      have S2 := Lib.hid s2
      have I2 := Lib.hid i2
      have HPP := Lib.hid hP
      have HLE := Lib.hid hle
      clear hI i1 i2 hm0 hM hle s1 s2 hq hb hP
      have x7 : (r : Int) / 9223372036854775808 = 0 := by omega
      by_cases hge : dd ≤ 2 * r + b
      · have x6 : IntKind.u64.wrap (((2 * r + b : Nat) : Int) - (dd : Int)) = ((2 * r + b - dd : Nat) : Int) := by rw [u64_in (by omega) (by omega)]; omega
        go_wp2_with fail
        go_roundw
        case rel =>
          have hs := S2.out hge
          have h1 : n / 2 ^ j / dd * 2 ^ j = Q + P := by rw [hs.1, HPP.out, I2.out]; grind
          have h2 := HLE.out
          rw [h1] at h2
          exact ⟨j, 2 * r + b - dd, Q + P, by omega, rfl, by congr 1; omega, by congr 1, by trivial, by omega, Nat.lt_of_le_of_lt h2 HQM.out, Lib.hid ⟨hs.2, h1.symm⟩⟩
        case measure => simp [intOf]
      · go_wp2_with fail
        go_roundw
        case rel =>
          have hs := S1.out (by omega)
          have h1 : n / 2 ^ j / dd * 2 ^ j = Q := by rw [hs.1, HPP.out, I2.out]; grind
          exact ⟨j, 2 * r + b, Q, by omega, rfl, by congr 1, by congr 1, by trivial, by omega, hQ1, Lib.hid ⟨hs.2, h1.symm⟩⟩
        case measure => simp [intOf]
end Go.Proofs.Ytaadajadeemndaa
