/- wide: a number times 65536 by another one, rounded. -/
import Derived.Test.YtdfkbbcoolgfiaaGreatMMat
import Derived.Laws.MathBits
import Derived.Laws.BitsAllLaws
import Derived.Test.YtdfkbbcoolgfiaaGreatMat4
namespace Go.Proofs.YtdfkbbcoolgfiaaGreat
open Go.RowKit Go.BigFrame

theorem u64_in {x : Int} (h0 : 0 ≤ x) (h1 : x < 18446744073709551616) : IntKind.u64.wrap x = x := by rw [IntKind.wrap_u64]; exact Int.emod_eq_of_lt h0 h1
theorem wsize_any (v : Int) (w : World) (h : -9223372036854775807 ≤ v ∧ v ≤ 9223372036854775807) :
    Calls Tryz.prog 177 #[.int .i64 v] w fun e w' => e = .returned (.int .u64 (v.natAbs : Int)) ∧ w = w' := by
  obtain ⟨h0, h1⟩ := h
  go_enter Tryz.func177, Tryz.ntmps177
  by_cases hv : v < 0
  · go_wp2
    go_ret
    exact ⟨ret_int (by omega), rfl⟩
  · go_wp2
    go_ret
    exact ⟨ret_int (by omega), rfl⟩
theorem or_add32 {x y : Int} (h0 : 0 ≤ x) (h1 : x < 4294967296) (h2 : 0 ≤ y) (h3 : y < 4294967296) : bits .or .u64 (x * 4294967296) y = x * 4294967296 + y := by
  rw [u64_or _ _ (by omega) (by omega) (by omega) (by omega)]
  have x2 : (x * 4294967296).toNat = x.toNat * 2 ^ 32 := by omega
  rw [x2, nat_join 32 _ _ (by rw [Nat.mul_mod_left]) (by omega), Int.natCast_add]
  omega
set_option maxRecDepth 100000 in
set_option maxHeartbeats 1000000 in
theorem wproduct_any (a : Int) (w : World) (ha : 0 ≤ a ∧ a ≤ 9223372036854775807) :
    Calls Tryz.prog 176 #[.int .u64 a, .int .u64 65536] w fun e w' => e = .returned (.tuple #[.int .u64 (a * 65536 / 18446744073709551616), .int .u64 (a * 65536 % 18446744073709551616)]) ∧ Below w.heap.size w w' := by
  obtain ⟨a0, a1⟩ := ha
  have e1 : bits .and .u64 a 4294967295 = a % 4294967296 := and_low32 a a0 (by omega)
  have e2 : bits .and .u64 65536 4294967295 = 65536 := rfl
  have e3 : IntKind.u64.wrap (a % 4294967296 * 65536) = a % 4294967296 * 65536 := u64_in (by omega) (by omega)
  have e4 : IntKind.u64.wrap (a / 4294967296 * 65536) = a / 4294967296 * 65536 := u64_in (by omega) (by omega)
  have e5 : bits .and .u64 (a / 4294967296 * 65536) 4294967295 = a / 4294967296 * 65536 % 4294967296 := and_low32 _ (by omega) (by omega)
  have e6 : bits .and .u64 (a % 4294967296 * 65536) 4294967295 = a % 4294967296 * 65536 % 4294967296 := and_low32 _ (by omega) (by omega)
  have e7 : bits .and .u64 0 4294967295 = 0 := rfl
  have e8 : IntKind.u64.wrap 0 = 0 := rfl
  have e9 : IntKind.u64.wrap (a % 4294967296 * 65536 / 4294967296 + a / 4294967296 * 65536 % 4294967296) = a % 4294967296 * 65536 / 4294967296 + a / 4294967296 * 65536 % 4294967296 := u64_in (by omega) (by omega)
  go_enter Tryz.func176, Tryz.ntmps176
  go_wp2
  go_quiet (fail)
  go_wp2
  go_ret2
  refine ⟨?_, bdrewN (bal (Below.refl _ _) _) _⟩
  show Ending.returned (.tuple #[.int .u64 (a / 4294967296 * 65536 / 4294967296 + (a % 4294967296 * 65536 / 4294967296 + a / 4294967296 * 65536 % 4294967296) / 4294967296),
    .int .u64 (bits BinOp.or IntKind.u64 ((a % 4294967296 * 65536 / 4294967296 + a / 4294967296 * 65536 % 4294967296) * 4294967296) (a % 4294967296 * 65536 % 4294967296))]) = _
  rw [or_add32 (by omega) (by omega) (by omega) (by omega)]
  have x1 : a / 4294967296 * 65536 / 4294967296 + (a % 4294967296 * 65536 / 4294967296 + a / 4294967296 * 65536 % 4294967296) / 4294967296 = a * 65536 / 18446744073709551616 := by omega
  have x2 : (a % 4294967296 * 65536 / 4294967296 + a / 4294967296 * 65536 % 4294967296) * 4294967296 + a % 4294967296 * 65536 % 4294967296 = a * 65536 % 18446744073709551616 := by omega
  rw [x1, x2]
theorem div_step {D M r q b : Nat} (hD : 0 < D) (hq : M / D = q) (hr : M % D = r) (hb : b ≤ 1) :
    (2 * r + b < D → (2 * M + b) / D = 2 * q ∧ (2 * M + b) % D = 2 * r + b) ∧ (D ≤ 2 * r + b → (2 * M + b) / D = 2 * q + 1 ∧ (2 * M + b) % D = 2 * r + b - D) := by
  have h1 := Nat.div_add_mod M D
  have h3 := Nat.mod_lt M hD
  rw [hq, hr] at h1
  rw [hr] at h3
  have h4 : D * (2 * q) = 2 * (D * q) := by rw [Nat.mul_left_comm]
  have h5 : D * (2 * q + 1) = 2 * (D * q) + D := by rw [Nat.mul_add, h4, Nat.mul_one]
  constructor
  · intro h
    have e : 2 * M + b = D * (2 * q) + (2 * r + b) := by omega
    rw [e, Nat.mul_add_div hD, Nat.mul_add_mod, Nat.div_eq_of_lt h, Nat.mod_eq_of_lt h]
    omega
  · intro h
    have e : 2 * M + b = D * (2 * q + 1) + (2 * r + b - D) := by omega
    have h6 : 2 * r + b - D < D := by omega
    rw [e, Nat.mul_add_div hD, Nat.mul_add_mod, Nat.div_eq_of_lt h6, Nat.mod_eq_of_lt h6]
    omega
theorem bit_of (n j : Nat) (hj : j < 64) : n % 18446744073709551616 / 2 ^ j % 2 = n / 2 ^ j % 2 := by
  have e : 18446744073709551616 = 2 ^ j * 2 ^ (64 - j) := by rw [← Nat.pow_add, show j + (64 - j) = 64 by omega]
  rw [e, Nat.mod_mul_right_div_self]
  exact Nat.mod_mod_of_dvd _ (Nat.dvd_of_mod_eq_zero (by obtain ⟨m, hm⟩ : ∃ m, 64 - j = m + 1 := ⟨63 - j, by omega⟩; rw [hm, Nat.pow_succ]; omega))
theorem half_of (n j : Nat) : n / 2 ^ j = 2 * (n / 2 ^ (j + 1)) + n / 2 ^ j % 2 := by
  rw [Nat.pow_succ, ← Nat.div_div_eq_div_mul]; omega
theorem quo_le (n d j : Nat) : n / 2 ^ j / d * 2 ^ j ≤ n / d := by
  rw [Nat.div_div_eq_div_mul, Nat.mul_comm (2 ^ j) d, ← Nat.div_div_eq_div_mul]
  exact Nat.div_mul_le_self _ _
theorem or_bit {j Q : Nat} (h : Q % 2 ^ (j + 1) = 0) (hQ : Q < 18446744073709551616) (hj : j < 64) : bits .or .u64 (Q : Int) ((2 ^ j : Nat) : Int) = ((Q + 2 ^ j : Nat) : Int) := by
  have hp : 2 ^ j < 18446744073709551616 := Nat.lt_of_lt_of_le (Nat.pow_lt_pow_right (by omega) hj) (by decide)
  rw [u64_or_nat _ _ hQ hp, nat_join (j + 1) _ _ h (Nat.pow_lt_pow_right (by omega) (by omega))]
theorem or_low {r b : Nat} (hr : r < 9223372036854775808) (hb : b ≤ 1) : bits .or .u64 ((r : Int) * 2) (b : Int) = ((2 * r + b : Nat) : Int) := by
  have e : (r : Int) * 2 = ((2 * r : Nat) : Int) := by omega
  rw [e, u64_or_nat _ _ (by omega) (by omega), nat_join1 _ _ (by omega) (by omega)]
set_option maxRecDepth 100000 in
set_option maxHeartbeats 4000000 in
theorem wparts_any (a d : Int) (n dd : Nat) (w : World) (ha : -4611686018427387904 ≤ a ∧ a ≤ 4611686018427387904) (hd : -4611686018427387904 ≤ d ∧ d ≤ 4611686018427387904) (hd0 : d ≠ 0) (hN : a.natAbs * 65536 = n) (hD : d.natAbs = dd) (hlt : n / 18446744073709551616 < dd) :
    Calls Tryz.prog 160 #[.int .i64 a, .int .i64 65536, .int .i64 d] w fun e w' => e = .returned (.tuple #[.int .u64 ((n / dd : Nat) : Int), .int .u64 ((n % dd : Nat) : Int), .int .u64 (dd : Int), .bool true]) ∧ Below w.heap.size w w' := by
  have HA := Lib.hid fun W => wsize_any a W (by omega)
  have HB := Lib.hid fun W => wsize_any 65536 W (by omega)
  have HD := Lib.hid fun W => wsize_any d W (by omega)
  obtain ⟨x, hx⟩ : ∃ x, a.natAbs = x := ⟨_, rfl⟩
  have HP := Lib.hid fun W => wproduct_any x W (by omega)
  rw [hx] at HA hN
  rw [hD] at HD
  have p1 : (x : Int) * 65536 / 18446744073709551616 = ((n / 18446744073709551616 : Nat) : Int) := by omega
  have p2 : (x : Int) * 65536 % 18446744073709551616 = ((n % 18446744073709551616 : Nat) : Int) := by omega
  rw [p1, p2] at HP
  have hD2 : 1 ≤ dd ∧ dd ≤ 4611686018427387904 := by omega
  have hN2 : n ≤ 302231454903657293676544 := by omega
  have hqm : n / dd < 18446744073709551616 := by
    rw [Nat.div_lt_iff_lt_mul (by omega)]
    have h := Nat.div_add_mod n 18446744073709551616
    have h2 : n / 18446744073709551616 + 1 ≤ dd := hlt
    have h3 := Nat.mul_le_mul_left 18446744073709551616 h2
    omega
  have HQM := Lib.hid hqm
  have HB2 : Hid (∀ W, Calls Tryz.prog 177 #[.int .i64 65536] W fun e w' => e = .returned (.int .u64 65536) ∧ W = w') := HB
  obtain ⟨lo, hlo⟩ : ∃ lo, n % 18446744073709551616 = lo := ⟨_, rfl⟩
  obtain ⟨hi, hhi⟩ : ∃ hi, n / 18446744073709551616 = hi := ⟨_, rfl⟩
  rw [hlo, hhi] at HP
  rw [hhi] at hlt
  have hlo2 : lo < 18446744073709551616 := by omega
  have HLO := Lib.hid hlo
  have HHI := Lib.hid hhi
  clear hx hN hD hd0 ha hd HB hlo hhi p1 p2 hqm hN2
  go_enter Tryz.func160, Tryz.ntmps160
  go_wp2_with fail
  refine (HA.out _).mono ?_; rintro e w1 ⟨rfl, rfl⟩
  go_wp2_with fail
  refine (HB2.out _).mono ?_; rintro e w1 ⟨rfl, rfl⟩
  go_wp2_with fail
  refine (HP.out _).mono ?_; rintro e w1 ⟨rfl, hb1⟩
  go_wp2_with fail
  refine (HD.out _).mono ?_; rintro e w2 ⟨rfl, rfl⟩
  go_wp2_with fail
  go_loopw [11, 7, 6] (fun s11 s7 s6 wr => ∃ (k r Q : Nat), k ≤ 64 ∧ s11 = .int .i64 ((k : Int) - 1) ∧ s7 = .int .u64 (r : Int) ∧ s6 = .int .u64 (Q : Int) ∧ wr = w1 ∧ r < dd ∧ Q < 18446744073709551616 ∧ Hid (n / 2 ^ k % dd = r ∧ Q = n / 2 ^ k / dd * 2 ^ k)) (fun s11 _ _ _ => (intOf s11 + 1).toNat)
  case atStart =>
    refine ⟨64, hi, 0, by omega, rfl, rfl, rfl, rfl, hlt, by omega, Lib.hid ?_⟩
    have e64 : (2 : Nat) ^ 64 = 18446744073709551616 := by decide
    rw [e64, HHI.out, Nat.mod_eq_of_lt hlt, Nat.div_eq_of_lt hlt]
    exact ⟨rfl, rfl⟩
  case round =>
    obtain ⟨k, r, Q, hk, rfl, rfl, rfl, rfl, hrD, hQ1, hI⟩ := hrel
    rcases Nat.eq_zero_or_pos k with rfl | hk0
    · have HR := Lib.hid (show r = n % dd ∧ Q = n / dd by
        obtain ⟨i1, i2⟩ := hI.out
        rw [Nat.pow_zero, Nat.div_one] at i1 i2
        exact ⟨i1.symm, by rw [i2, Nat.mul_one]⟩)
      go_wp2_with fail
      refine bodyPost_ret (v := .tuple #[.int .u64 (Q : Int), .int .u64 (r : Int), .int .u64 (dd : Int), .bool true]) (by simp [results, Tryz.results160, go_sem]) rfl ?_
      rw [HR.out.1, HR.out.2]
      exact ⟨rfl, hb1⟩
    · obtain ⟨j, rfl⟩ : ∃ j, k = j + 1 := ⟨k - 1, by omega⟩
      have ej : ((j + 1 : Nat) : Int) - 1 = j := by omega
      rw [ej]
      obtain ⟨b, hb⟩ : ∃ b, n / 2 ^ j % 2 = b := ⟨_, rfl⟩
      have hb1' : b ≤ 1 := by omega
      obtain ⟨P, hP⟩ : ∃ P, 2 ^ j = P := ⟨_, rfl⟩
      have hPlt : P < 18446744073709551616 := by rw [← hP]; exact Nat.lt_of_lt_of_le (Nat.pow_lt_pow_right (by omega) (show j < 64 by omega)) (by decide)
      have x1 : (2 : Int) ^ j = (P : Int) := by rw [← hP]; simp
      have x2 : bits .and .u64 ((lo : Int) / (P : Int)) 1 = (b : Int) := by
        have h3 := bit_of n j (by omega)
        rw [HLO.out, hb, hP] at h3
        obtain ⟨z, hz⟩ : ∃ z, lo / P = z := ⟨_, rfl⟩
        have h4 : (lo : Int) / (P : Int) = (z : Int) := by rw [← hz]; exact (Int.natCast_ediv lo P).symm
        have h5 : z ≤ lo := by rw [← hz]; exact Nat.div_le_self _ _
        rw [hz] at h3
        rw [h4, and_one_u64 _ (by omega) (by omega)]
        omega
      have x3 : bits .or .u64 ((r : Int) * 2) (b : Int) = ((2 * r + b : Nat) : Int) := or_low (by omega) hb1'
      obtain ⟨i1, i2⟩ := hI.out
      have hm0 : Q % 2 ^ (j + 1) = 0 := by rw [i2, Nat.mul_mod_left]
      have x4 : bits .or .u64 (Q : Int) (P : Int) = ((Q + P : Nat) : Int) := by rw [← hP]; exact or_bit hm0 hQ1 (by omega)
      have x5 : IntKind.u64.wrap (P : Int) = (P : Int) := u64_in (by omega) (by omega)
      obtain ⟨q, hq⟩ : ∃ q, n / 2 ^ (j + 1) / dd = q := ⟨_, rfl⟩
      obtain ⟨s1, s2⟩ := div_step (b := b) (show 0 < dd by omega) hq i1 hb1'
      have hM := half_of n j
      rw [hb] at hM
      rw [← hM] at s1 s2
      rw [hq, Nat.pow_succ, hP] at i2
      have hle := quo_le n dd j
      have S1 := Lib.hid s1
      have S2 := Lib.hid s2
      have I2 := Lib.hid i2
      have HPP := Lib.hid hP
      have HLE := Lib.hid hle
      clear hI i1 i2 hm0 hM hle s1 s2 hq hb hP
      have x7 : (r : Int) / 9223372036854775808 = 0 := by omega
      by_cases hge : dd ≤ 2 * r + b
      · have x6 : IntKind.u64.wrap (((2 * r + b : Nat) : Int) - (dd : Int)) = ((2 * r + b - dd : Nat) : Int) := by rw [u64_in (by omega) (by omega)]; omega
        go_wp2_with fail
        go_roundw
        case rel =>
          have hs := S2.out hge
          have h1 : n / 2 ^ j / dd * 2 ^ j = Q + P := by rw [hs.1, HPP.out, I2.out]; grind
          have h2 := HLE.out
          rw [h1] at h2
          exact ⟨j, 2 * r + b - dd, Q + P, by omega, rfl, by congr 1; omega, by congr 1, by trivial, by omega, Nat.lt_of_le_of_lt h2 HQM.out, Lib.hid ⟨hs.2, h1.symm⟩⟩
        case measure => simp [intOf]
      · go_wp2_with fail
        go_roundw
        case rel =>
          have hs := S1.out (by omega)
          have h1 : n / 2 ^ j / dd * 2 ^ j = Q := by rw [hs.1, HPP.out, I2.out]; grind
          exact ⟨j, 2 * r + b, Q, by omega, rfl, by congr 1, by congr 1, by trivial, by omega, hQ1, Lib.hid ⟨hs.2, h1.symm⟩⟩
        case measure => simp [intOf]
end Go.Proofs.YtdfkbbcoolgfiaaGreat

namespace Go.Proofs.YtdfkbbcoolgfiaaGreat
open Go.RowKit Go.BigFrame

/-- Up, where what is left is more than a half, or a half and the quotient odd. -/
def upB (q r d : Nat) : Bool := decide (d - r < r) || (decide (r = d - r) && decide (q % 2 = 1))
/-- A size with its sign. -/
def sgnQ (q : Nat) (below : Bool) : Int × Bool := if below then (if q ≤ 9223372036854775808 then (-(q : Int), true) else (0, false)) else (if q < 9223372036854775808 then ((q : Int), true) else (0, false))
/-- a times 65536 by d, rounded. -/
def mdv (a d : Int) : Int × Bool :=
  if d = 0 ∨ d.natAbs ≤ a.natAbs * 65536 / 18446744073709551616 then (0, false)
  else if upB (a.natAbs * 65536 / d.natAbs) (a.natAbs * 65536 % d.natAbs) d.natAbs then
    (if a.natAbs * 65536 / d.natAbs + 1 = 18446744073709551616 then (0, false) else sgnQ (a.natAbs * 65536 / d.natAbs + 1) (decide (a < 0) != decide (d < 0)))
  else sgnQ (a.natAbs * 65536 / d.natAbs) (decide (a < 0) != decide (d < 0))
set_option maxRecDepth 100000 in
theorem wunder_any (a d : Int) (w : World) : Calls Tryz.prog 163 #[.int .i64 a, .int .i64 65536, .int .i64 d] w fun e w' => e = .returned (.bool (decide (a < 0) != decide (d < 0))) ∧ w = w' := by
  go_enter Tryz.func163, Tryz.ntmps163
  go_wp2
  go_ret
  refine ⟨ret_bool ?_, rfl⟩
  by_cases h1 : a < 0 <;> by_cases h2 : d < 0 <;> simp [h1, h2]
set_option maxRecDepth 100000 in
theorem wmore_any (q : Nat) (up : Bool) (w : World) (hq : q < 18446744073709551616) : Calls Tryz.prog 161 #[.int .u64 (q : Int), .bool up] w
    fun e w' => e = .returned (.tuple #[.int .u64 (if up then (if q + 1 = 18446744073709551616 then 0 else (q : Int) + 1) else (q : Int)), .bool (!up || !decide (q + 1 = 18446744073709551616))]) ∧ w = w' := by
  cases up
  · go_enter Tryz.func161, Tryz.ntmps161
    go_wp2
    go_ret2
    exact ⟨by simp, rfl⟩
  · by_cases h : q + 1 = 18446744073709551616
    · have e1 : IntKind.u64.wrap ((q : Int) + 1) = 0 := by rw [IntKind.wrap_u64]; omega
      go_enter Tryz.func161, Tryz.ntmps161
      go_wp2
      go_ret2
      refine ⟨?_, rfl⟩
      simp
    · have e1 : IntKind.u64.wrap ((q : Int) + 1) = (q : Int) + 1 := u64_in (by omega) (by omega)
      have e2 : ((q : Int) + 1 == 0) = false := by simp; omega
      go_enter Tryz.func161, Tryz.ntmps161
      go_wp2
      go_ret2
      refine ⟨?_, rfl⟩
      simp
      try omega
set_option maxRecDepth 100000 in
theorem wsigned_any (q : Nat) (below : Bool) (w : World) (hq : q < 18446744073709551616) : Calls Tryz.prog 162 #[.int .u64 (q : Int), .bool below] w
    fun e w' => e = .returned (.tuple #[.int .i64 (sgnQ q below).1, .bool (sgnQ q below).2]) ∧ w = w' := by
  obtain ⟨R, hR⟩ : ∃ R, sgnQ q below = R := ⟨_, rfl⟩
  have HR := Lib.hid hR
  rw [hR]
  clear hR
  have HQ := Lib.hid hq
  clear hq
  cases below
  · by_cases h : q < 9223372036854775808
    · have HR2 := Lib.hid (show R = ((q : Int), true) by rw [← HR.out]; simp [sgnQ, h])
      have f1 : decide ((q : Int) < 9223372036854775808) = true := decide_eq_true (by omega)
      have f2 : IntKind.i64.wrap (q : Int) = (q : Int) := IntWalk.i64_in _ (by omega)
      have f3 : decide (q < 9223372036854775808) = true := decide_eq_true h
      clear HR h
      go_enter Tryz.func162, Tryz.ntmps162
      go_wp2
      go_ret2
      rw [HR2.out]
      exact ⟨rfl, rfl⟩
    · have HR2 := Lib.hid (show R = (0, false) by rw [← HR.out]; simp [sgnQ, h])
      have f1 : decide ((q : Int) < 9223372036854775808) = false := decide_eq_false (by omega)
      have f3 : decide (q < 9223372036854775808) = false := decide_eq_false h
      clear HR h
      go_enter Tryz.func162, Tryz.ntmps162
      go_wp2
      go_ret2
      rw [HR2.out]
      exact ⟨rfl, rfl⟩
  · by_cases h : q ≤ 9223372036854775808
    · have HR2 := Lib.hid (show R = (-(q : Int), true) by rw [← HR.out]; simp [sgnQ, h])
      have e1 : IntKind.i64.wrap (IntKind.u64.wrap (-(q : Int))) = -(q : Int) := by
        rw [IntKind.wrap_u64]
        rcases Nat.eq_zero_or_pos q with rfl | hp
        · rfl
        · have : (-(q : Int)) % 18446744073709551616 = 18446744073709551616 - q := by omega
          rw [this, IntKind.wrap_i64]
          omega
      have f1 : decide ((q : Int) ≤ 9223372036854775808) = true := decide_eq_true (by omega)
      have f3 : decide (q ≤ 9223372036854775808) = true := decide_eq_true h
      clear HR h
      go_enter Tryz.func162, Tryz.ntmps162
      go_wp2
      go_ret2
      rw [HR2.out]
      exact ⟨rfl, rfl⟩
    · have HR2 := Lib.hid (show R = (0, false) by rw [← HR.out]; simp [sgnQ, h])
      have f1 : decide ((q : Int) ≤ 9223372036854775808) = false := decide_eq_false (by omega)
      have f3 : decide (q ≤ 9223372036854775808) = false := decide_eq_false h
      clear HR h
      go_enter Tryz.func162, Tryz.ntmps162
      go_wp2
      go_ret2
      rw [HR2.out]
      exact ⟨rfl, rfl⟩
end Go.Proofs.YtdfkbbcoolgfiaaGreat

namespace Go.Proofs.YtdfkbbcoolgfiaaGreat
open Go.RowKit Go.BigFrame

set_option maxRecDepth 100000 in
set_option maxHeartbeats 4000000 in
theorem wparts_no (a d : Int) (n dd : Nat) (w : World) (ha : -4611686018427387904 ≤ a ∧ a ≤ 4611686018427387904) (hd : -4611686018427387904 ≤ d ∧ d ≤ 4611686018427387904) (hN : a.natAbs * 65536 = n) (hD : d.natAbs = dd) (hlt : dd ≤ n / 18446744073709551616) :
    Calls Tryz.prog 160 #[.int .i64 a, .int .i64 65536, .int .i64 d] w fun e w' => e = .returned (.tuple #[.int .u64 0, .int .u64 0, .int .u64 0, .bool false]) ∧ Below w.heap.size w w' := by
  have HA := Lib.hid fun W => wsize_any a W (by omega)
  have HB := Lib.hid fun W => wsize_any 65536 W (by omega)
  have HD := Lib.hid fun W => wsize_any d W (by omega)
  obtain ⟨x, hx⟩ : ∃ x, a.natAbs = x := ⟨_, rfl⟩
  have HP := Lib.hid fun W => wproduct_any x W (by omega)
  rw [hx] at HA hN
  rw [hD] at HD
  have p1 : (x : Int) * 65536 / 18446744073709551616 = ((n / 18446744073709551616 : Nat) : Int) := by omega
  have p2 : (x : Int) * 65536 % 18446744073709551616 = ((n % 18446744073709551616 : Nat) : Int) := by omega
  rw [p1, p2] at HP
  have HB2 : Hid (∀ W, Calls Tryz.prog 177 #[.int .i64 65536] W fun e w' => e = .returned (.int .u64 65536) ∧ W = w') := HB
  obtain ⟨lo, hlo⟩ : ∃ lo, n % 18446744073709551616 = lo := ⟨_, rfl⟩
  obtain ⟨hi, hhi⟩ : ∃ hi, n / 18446744073709551616 = hi := ⟨_, rfl⟩
  rw [hlo, hhi] at HP
  rw [hhi] at hlt
  clear hx hN hD ha hd HB hlo hhi p1 p2
  go_enter Tryz.func160, Tryz.ntmps160
  go_wp2_with fail
  refine (HA.out _).mono ?_; rintro e w1 ⟨rfl, rfl⟩
  go_wp2_with fail
  refine (HB2.out _).mono ?_; rintro e w1 ⟨rfl, rfl⟩
  go_wp2_with fail
  refine (HP.out _).mono ?_; rintro e w1 ⟨rfl, hb1⟩
  go_wp2_with fail
  refine (HD.out _).mono ?_; rintro e w2 ⟨rfl, rfl⟩
  go_wp2_with fail
  refine bodyPost_ret (v := .tuple #[.int .u64 0, .int .u64 0, .int .u64 0, .bool false]) (by simp [results, Tryz.results160, go_sem]) rfl ?_
  exact ⟨rfl, hb1⟩
set_option maxRecDepth 100000 in
set_option maxHeartbeats 4000000 in
theorem mulDiv_any (a d : Int) (R : Int × Bool) (w : World) (ha : -4611686018427387904 ≤ a ∧ a ≤ 4611686018427387904) (hd : -4611686018427387904 ≤ d ∧ d ≤ 4611686018427387904) (hR : mdv a d = R) :
    Calls Tryz.prog 135 #[.int .i64 a, .int .i64 65536, .int .i64 d] w fun e w' => e = .returned (.tuple #[.int .i64 R.1, .bool R.2]) ∧ Below w.heap.size w w' := by
  have HR := Lib.hid hR
  clear hR
  by_cases hno : d = 0 ∨ d.natAbs ≤ a.natAbs * 65536 / 18446744073709551616
  · have HR2 : Hid (R = (0, false)) := Lib.hid (by rw [← HR.out]; unfold mdv; rw [if_pos hno])
    have hno2 : d.natAbs ≤ a.natAbs * 65536 / 18446744073709551616 := by rcases hno with rfl | h; exact Nat.zero_le _; exact h
    have HP := Lib.hid fun W => wparts_no a d _ _ W ha hd rfl rfl hno2
    clear HR hno hno2
    go_enter Tryz.func135, Tryz.ntmps135
    go_wp2_with fail
    refine (HP.out _).mono ?_; rintro e w1 ⟨rfl, hb1⟩
    go_wp2_with fail
    go_ret2
    rw [HR2.out]
    exact ⟨rfl, hb1⟩
  · have hd0 : d ≠ 0 := fun h => hno (.inl h)
    have hlt : a.natAbs * 65536 / 18446744073709551616 < d.natAbs := by omega
    have HP := Lib.hid fun W => wparts_any a d _ _ W ha hd hd0 rfl rfl hlt
    have hq : a.natAbs * 65536 / d.natAbs < 18446744073709551616 := by
      rw [Nat.div_lt_iff_lt_mul (by omega)]
      have h := Nat.div_add_mod (a.natAbs * 65536) 18446744073709551616
      have h3 := Nat.mul_le_mul_left 18446744073709551616 (show a.natAbs * 65536 / 18446744073709551616 + 1 ≤ d.natAbs from hlt)
      omega
    have hr := Nat.mod_lt (a.natAbs * 65536) (show d.natAbs > 0 by omega)
    obtain ⟨bs, hbs⟩ : ∃ b, (decide (a < 0) != decide (d < 0)) = b := ⟨_, rfl⟩
    obtain ⟨q, hNq⟩ : ∃ q, a.natAbs * 65536 / d.natAbs = q := ⟨_, rfl⟩
    obtain ⟨r, hNr⟩ : ∃ r, a.natAbs * 65536 % d.natAbs = r := ⟨_, rfl⟩
    obtain ⟨dd, hdd⟩ : ∃ dd, d.natAbs = dd := ⟨_, rfl⟩
    rw [hNq, hNr, hdd] at HP
    rw [hNq] at hq
    rw [hNr, hdd] at hr
    rw [hdd] at hNq hNr hno
    have hdd2 : dd ≤ 4611686018427387904 := by omega
    have HS := Lib.hid hbs
    have HDD := Lib.hid hdd
    have x1 : IntKind.u64.wrap ((dd : Int) - (r : Int)) = (dd : Int) - (r : Int) := u64_in (by omega) (by omega)
    have x2 : bits .and .u64 (q : Int) 1 = (q : Int) % 2 := and_one_u64 _ (by omega) (by omega)
    have x3 : decide ((r : Int) > (dd : Int) - (r : Int)) = decide (dd - r < r) := decide_eq_decide.2 (by omega)
    clear hd0 hlt hdd hd ha
    by_cases c1 : dd - r < r
    · have hU : upB q r dd = true := by unfold upB; simp [c1]
      by_cases hmx : q + 1 = 18446744073709551616
      · have HR2 : Hid (R = (0, false)) := Lib.hid (by rw [← HR.out]; unfold mdv; rw [HDD.out, if_neg hno, hNq, hNr, hU, hbs]; simp [hmx])
        have HMX := Lib.hid hmx
        clear HR hU hno hNq hNr hbs hmx
        go_enter Tryz.func135, Tryz.ntmps135
        go_wp2_with fail
        refine (HP.out _).mono ?_; rintro e w1 ⟨rfl, hb1⟩
        go_wp2_with fail
        refine (wmore_any q true _ hq).mono ?_; rintro e w2 ⟨rfl, rfl⟩
        rw [decide_eq_true HMX.out]
        simp only [if_pos HMX.out, if_true, Bool.not_true, Bool.false_or]
        go_wp2_with fail
        go_ret2
        rw [HR2.out]
        exact ⟨rfl, hb1⟩
      · have HR2 : Hid (R = sgnQ (q + 1) bs) := Lib.hid (by rw [← HR.out]; unfold mdv; rw [HDD.out, if_neg hno, hNq, hNr, hU, hbs]; simp [hmx])
        have HMX := Lib.hid hmx
        have hq1 : q + 1 < 18446744073709551616 := by omega
        have eq1 : (q : Int) + 1 = ((q + 1 : Nat) : Int) := by omega
        have EQ1 := Lib.hid eq1
        clear HR hU hno hNq hNr hbs hmx eq1
        go_enter Tryz.func135, Tryz.ntmps135
        go_wp2_with fail
        refine (HP.out _).mono ?_; rintro e w1 ⟨rfl, hb1⟩
        go_wp2_with fail
        refine (wmore_any q true _ hq).mono ?_; rintro e w2 ⟨rfl, rfl⟩
        rw [decide_eq_false HMX.out]
        simp only [if_neg HMX.out, if_true, Bool.not_true, Bool.false_or, Bool.not_false]
        rw [EQ1.out]
        obtain ⟨q1, hq1e⟩ : ∃ q1, q1 = q + 1 := ⟨_, rfl⟩
        rw [← hq1e] at HR2 hq1 ⊢
        clear hq1e EQ1
        go_wp2_with fail
        refine (wunder_any a d _).mono ?_; rintro e w3 ⟨rfl, rfl⟩
        rw [HS.out]
        go_wp2_with fail
        refine (wsigned_any (q1) bs _ (hq1)).mono ?_; rintro e w4 ⟨rfl, rfl⟩
        go_wp2_with fail
        go_ret2
        rw [HR2.out]
        exact ⟨rfl, hb1⟩
    · by_cases c2 : r = dd - r
      · have y1 : ((r : Int) == (dd : Int) - (r : Int)) = true := by simp; omega
        have y3 : decide ((r : Int) = (dd : Int) - (r : Int)) = true := decide_eq_true (by omega)
        have C2 := Lib.hid c2
        clear c2
        rcases Nat.mod_two_eq_zero_or_one q with h2 | h2
        · have hU : upB q r dd = false := by unfold upB; simp [c1, h2]
          have y2 : (q : Int) % 2 = 0 := by omega
          have HR2 : Hid (R = sgnQ q bs) := Lib.hid (by rw [← HR.out]; unfold mdv; rw [HDD.out, if_neg hno, hNq, hNr, hU, hbs]; simp)
          clear HR hU hno hNq hNr hbs
          go_enter Tryz.func135, Tryz.ntmps135
          go_wp2_with fail
          refine (HP.out _).mono ?_; rintro e w1 ⟨rfl, hb1⟩
          go_wp2_with fail
          refine (wmore_any q false _ hq).mono ?_; rintro e w2 ⟨rfl, rfl⟩
          simp only [Bool.false_eq_true, if_false, Bool.not_false, Bool.true_or]
          go_wp2_with fail
          refine (wunder_any a d _).mono ?_; rintro e w3 ⟨rfl, rfl⟩
          rw [HS.out]
          go_wp2_with fail
          refine (wsigned_any (q) bs _ (hq)).mono ?_; rintro e w4 ⟨rfl, rfl⟩
          go_wp2_with fail
          go_ret2
          rw [HR2.out]
          exact ⟨rfl, hb1⟩
        · have hU : upB q r dd = true := by unfold upB; rw [decide_eq_true C2.out, decide_eq_true h2]; simp
          have y2 : (q : Int) % 2 = 1 := by omega
          by_cases hmx : q + 1 = 18446744073709551616
          · have HR2 : Hid (R = (0, false)) := Lib.hid (by rw [← HR.out]; unfold mdv; rw [HDD.out, if_neg hno, hNq, hNr, hU, hbs]; simp [hmx])
            have HMX := Lib.hid hmx
            clear HR hU hno hNq hNr hbs hmx
            go_enter Tryz.func135, Tryz.ntmps135
            go_wp2_with fail
            refine (HP.out _).mono ?_; rintro e w1 ⟨rfl, hb1⟩
            go_wp2_with fail
            refine (wmore_any q true _ hq).mono ?_; rintro e w2 ⟨rfl, rfl⟩
            rw [decide_eq_true HMX.out]
            simp only [if_pos HMX.out, if_true, Bool.not_true, Bool.false_or]
            go_wp2_with fail
            go_ret2
            rw [HR2.out]
            exact ⟨rfl, hb1⟩
          · have HR2 : Hid (R = sgnQ (q + 1) bs) := Lib.hid (by rw [← HR.out]; unfold mdv; rw [HDD.out, if_neg hno, hNq, hNr, hU, hbs]; simp [hmx])
            have HMX := Lib.hid hmx
            have hq1 : q + 1 < 18446744073709551616 := by omega
            have eq1 : (q : Int) + 1 = ((q + 1 : Nat) : Int) := by omega
            have EQ1 := Lib.hid eq1
            clear HR hU hno hNq hNr hbs hmx eq1
            go_enter Tryz.func135, Tryz.ntmps135
            go_wp2_with fail
            refine (HP.out _).mono ?_; rintro e w1 ⟨rfl, hb1⟩
            go_wp2_with fail
            refine (wmore_any q true _ hq).mono ?_; rintro e w2 ⟨rfl, rfl⟩
            rw [decide_eq_false HMX.out]
            simp only [if_neg HMX.out, if_true, Bool.not_true, Bool.false_or, Bool.not_false]
            rw [EQ1.out]
            obtain ⟨q1, hq1e⟩ : ∃ q1, q1 = q + 1 := ⟨_, rfl⟩
            rw [← hq1e] at HR2 hq1 ⊢
            clear hq1e EQ1
            go_wp2_with fail
            refine (wunder_any a d _).mono ?_; rintro e w3 ⟨rfl, rfl⟩
            rw [HS.out]
            go_wp2_with fail
            refine (wsigned_any (q1) bs _ (hq1)).mono ?_; rintro e w4 ⟨rfl, rfl⟩
            go_wp2_with fail
            go_ret2
            rw [HR2.out]
            exact ⟨rfl, hb1⟩
      · have hU : upB q r dd = false := by unfold upB; simp [c1, c2]
        have HR2 : Hid (R = sgnQ q bs) := Lib.hid (by rw [← HR.out]; unfold mdv; rw [HDD.out, if_neg hno, hNq, hNr, hU, hbs]; simp)
        clear HR hU hno hNq hNr hbs
        go_enter Tryz.func135, Tryz.ntmps135
        go_wp2_with fail
        refine (HP.out _).mono ?_; rintro e w1 ⟨rfl, hb1⟩
        go_wp2_with fail
        refine (wmore_any q false _ hq).mono ?_; rintro e w2 ⟨rfl, rfl⟩
        simp only [Bool.false_eq_true, if_false, Bool.not_false, Bool.true_or]
        go_wp2_with fail
        refine (wunder_any a d _).mono ?_; rintro e w3 ⟨rfl, rfl⟩
        rw [HS.out]
        go_wp2_with fail
        refine (wsigned_any (q) bs _ (hq)).mono ?_; rintro e w4 ⟨rfl, rfl⟩
        go_wp2_with fail
        go_ret2
        rw [HR2.out]
        exact ⟨rfl, hb1⟩
end Go.Proofs.YtdfkbbcoolgfiaaGreat

namespace Go.Proofs.YtdfkbbcoolgfiaaGreat
open Go.RowKit Go.BigFrame

def detM (m : Mt) : Int := m.a * m.d - m.b * m.c
/-- Device units as a place of a user. -/
def backM (m : Mt) (px py : Int) : Int × Int × Int :=
  if mtB m = false then (0, 0, 1) else if (nearP px py 8191).2.2 ≠ 0 then (0, 0, 1) else if detM m = 0 then (0, 0, 14)
  else if (mdv (m.d * (px * 65536 - m.e) - m.c * (py * 65536 - m.f)) (detM m)).2 && (mdv (m.a * (py * 65536 - m.f) - m.b * (px * 65536 - m.e)) (detM m)).2 then
    nearP (mdv (m.d * (px * 65536 - m.e) - m.c * (py * 65536 - m.f)) (detM m)).1 (mdv (m.a * (py * 65536 - m.f) - m.b * (px * 65536 - m.e)) (detM m)).1 1073741823 else (0, 0, 2)
theorem mulI_bd {a b A B : Int} (hA : 0 ≤ A) (ha : -A ≤ a ∧ a ≤ A) (hb : -B ≤ b ∧ b ≤ B) : -(A * B) ≤ a * b ∧ a * b ≤ A * B := by
  have h1 : a.natAbs ≤ A.natAbs := by omega
  have h2 : b.natAbs ≤ B.natAbs := by omega
  have h3 : (a * b).natAbs ≤ A.natAbs * B.natAbs := by rw [Int.natAbs_mul]; exact Nat.mul_le_mul h1 h2
  have h4 : 0 ≤ B := by omega
  have h5 : ((A.natAbs * B.natAbs : Nat) : Int) = A * B := by rw [Int.natCast_mul, Int.natAbs_of_nonneg hA, Int.natAbs_of_nonneg h4]
  omega
theorem det_bd {m : Mt} (h : mtB m = true) : -4611686018427387904 ≤ detM m ∧ detM m ≤ 4611686018427387904 := by
  obtain ⟨f1, f2, f3, f4, _, _⟩ := mtB_fix h
  have p1 := mul_fix f1 f4
  have p2 := mul_fix f2 f3
  unfold detM
  omega
set_option maxRecDepth 100000 in
set_option maxHeartbeats 1000000 in
theorem det_any (m : Mt) (w : World) (h : mtB m = true) : Calls Tryz.prog 69 #[mtv m] w fun e w' => e = .returned (.int .i64 (detM m)) ∧ Below w.heap.size w w' := by
  obtain ⟨f1, f2, f3, f4, _, _⟩ := mtB_fix h
  have p1 := mul_fix f1 f4
  have p2 := mul_fix f2 f3
  unfold detM mtv
  have e1 : IntKind.i64.wrap (m.a * m.d) = m.a * m.d := IntWalk.i64_in _ (by omega)
  have e2 : IntKind.i64.wrap (m.b * m.c) = m.b * m.c := IntWalk.i64_in _ (by omega)
  have e3 : IntKind.i64.wrap (m.a * m.d - m.b * m.c) = m.a * m.d - m.b * m.c := IntWalk.i64_in _ (by omega)
  clear f1 f2 f3 f4 p1 p2 h
  go_enter Tryz.func69, Tryz.ntmps69
  go_wp2
  go_ret
  exact ⟨rfl, bal (Below.refl _ _) _⟩
set_option maxRecDepth 100000 in
set_option maxHeartbeats 1000000 in
theorem matNear_big (x y : Int) (w : World) : Calls Tryz.prog 134 #[.int .i64 x, .int .i64 y, .int .i64 1073741823] w fun e w' => e = .returned (vP (nearP x y 1073741823)) ∧ w = w' := by
  obtain ⟨R, hR⟩ : ∃ R, nearP x y 1073741823 = R := ⟨_, rfl⟩
  have HR := Lib.hid hR
  rw [hR]
  clear hR
  go_enter Tryz.func134, Tryz.ntmps134
  go_wp2
  all_goals
    go_ret3
    refine ⟨?_, rfl⟩
    rw [← HR.out]
    unfold nearP
    split
    · first | rfl | (exfalso; simp_all; done) | (exfalso; simp_all; omega) | (exfalso; omega)
    · first | rfl | (exfalso; simp_all; done) | (exfalso; simp_all; omega) | (exfalso; omega)
set_option maxRecDepth 100000 in
set_option maxHeartbeats 4000000 in
theorem matBack_any (m : Mt) (px py : Int) (w : World) : Calls Tryz.prog 92 #[mtv m, .int .i64 px, .int .i64 py] w fun e w' => e = .returned (vP (backM m px py)) ∧ Below w.heap.size w w' := by
  obtain ⟨w0, hw0⟩ : ∃ w0 : World, w0 = w.alloc (.cells (mtC m).toArray 23) := ⟨_, rfl⟩
  have hB0 : Below w.heap.size w w0 := by rw [hw0]; exact bal (Below.refl _ _) _
  have hA : BC w0 w.heap.size (mtC m) := by rw [hw0]; exact BC.new (mtC m) 23 rfl
  have HM := Lib.hid fun W => matMay_any m W
  have HN := Lib.hid fun W => matNear_any px py 8191 W (by omega)
  have HD := Lib.hid fun (h : mtB m = true) W => det_any m W h
  unfold mtv at HM HD ⊢
  unfold vP at HN
  unfold mtC at hw0
  obtain ⟨R, hR⟩ : ∃ R, backM m px py = R := ⟨_, rfl⟩
  have HR := Lib.hid hR
  rw [hR]
  clear hR
  have a0 := hA.c 0 _ rfl
  have a1 := hA.c 1 _ rfl
  have a2 := hA.c 2 _ rfl
  have a3 := hA.c 3 _ rfl
  have a4 := hA.c 4 _ rfl
  have a5 := hA.c 5 _ rfl
  go_enter Tryz.func92, Tryz.ntmps92
  go_upto_region 1 with (fail)
  rw [← hw0]
  clear hw0
  go_wp2_with fail
  refine (HM.out _).mono ?_; rintro e w1 ⟨rfl, hb1⟩
  have B1 := btr hB0 hb1
  have hA1 := hA.below hb1
  clear a0 a1 a2 a3 a4 a5 hb1 hA hB0
  cases hm : mtB m
  · have HR2 := Lib.hid (show R = (0, 0, 1) by rw [← HR.out]; unfold backM; rw [hm]; simp)
    go_wp2_with fail
    go_ret3
    rw [HR2.out]
    exact ⟨rfl, B1⟩
  · go_wp2_with fail
    refine (HN.out _).mono ?_; rintro e w' ⟨rfl, rfl⟩
    by_cases hn : px < -8191 ∨ px > 8191 ∨ py < -8191 ∨ py > 8191
    · have hn2 : nearP px py 8191 = (0, 0, 2) := by unfold nearP; rw [if_pos hn]
      have HR2 := Lib.hid (show R = (0, 0, 1) by rw [← HR.out]; unfold backM; rw [hm, hn2]; simp)
      rw [hn2]
      go_wp2_with fail
      go_ret3
      rw [HR2.out]
      exact ⟨rfl, B1⟩
    · have hn2 : nearP px py 8191 = (px, py, 0) := by unfold nearP; rw [if_neg hn]
      have HR3 : Hid (R = if detM m = 0 then (0, 0, 14) else if (mdv (m.d * (px * 65536 - m.e) - m.c * (py * 65536 - m.f)) (detM m)).2 && (mdv (m.a * (py * 65536 - m.f) - m.b * (px * 65536 - m.e)) (detM m)).2 then
        nearP (mdv (m.d * (px * 65536 - m.e) - m.c * (py * 65536 - m.f)) (detM m)).1 (mdv (m.a * (py * 65536 - m.f) - m.b * (px * 65536 - m.e)) (detM m)).1 1073741823 else (0, 0, 2)) :=
        Lib.hid (by rw [← HR.out]; unfold backM; rw [hm, hn2, if_neg (by simp), if_neg (by simp)])
      rw [hn2]
      have a0 := hA1.c 0 _ rfl
      have a1 := hA1.c 1 _ rfl
      have a2 := hA1.c 2 _ rfl
      have a3 := hA1.c 3 _ rfl
      have a4 := hA1.c 4 _ rfl
      have a5 := hA1.c 5 _ rfl
      have hdb := det_bd hm
      obtain ⟨f1, f2, f3, f4, f5, f6⟩ := mtB_fix hm
      rw [fixB_iff] at f1 f2 f3 f4 f5 f6
      obtain ⟨D, hD⟩ : ∃ D, detM m = D := ⟨_, rfl⟩
      have HDm := Lib.hid (HD.out hm)
      rw [hD] at HDm HR3 hdb
      obtain ⟨p, hp⟩ : ∃ p, px * 65536 - m.e = p := ⟨_, rfl⟩
      obtain ⟨q, hq⟩ : ∃ q, py * 65536 - m.f = q := ⟨_, rfl⟩
      rw [hp, hq] at HR3
      have hp2 : -1610612736 ≤ p ∧ p ≤ 1610612736 := by omega
      have hq2 : -1610612736 ≤ q ∧ q ≤ 1610612736 := by omega
      have g1 := mulI_bd (a := m.d) (b := p) (A := 1073741823) (B := 1610612736) (by omega) (by omega) hp2
      have g2 := mulI_bd (a := m.c) (b := q) (A := 1073741823) (B := 1610612736) (by omega) (by omega) hq2
      have g3 := mulI_bd (a := m.a) (b := q) (A := 1073741823) (B := 1610612736) (by omega) (by omega) hq2
      have g4 := mulI_bd (a := m.b) (b := p) (A := 1073741823) (B := 1610612736) (by omega) (by omega) hp2
      have e1 : IntKind.i64.wrap (m.d * p) = m.d * p := IntWalk.i64_in _ (by omega)
      have e2 : IntKind.i64.wrap (m.c * q) = m.c * q := IntWalk.i64_in _ (by omega)
      have e3 : IntKind.i64.wrap (m.a * q) = m.a * q := IntWalk.i64_in _ (by omega)
      have e4 : IntKind.i64.wrap (m.b * p) = m.b * p := IntWalk.i64_in _ (by omega)
      have e5 : IntKind.i64.wrap (m.d * p - m.c * q) = m.d * p - m.c * q := IntWalk.i64_in _ (by omega)
      have e6 : IntKind.i64.wrap (m.a * q - m.b * p) = m.a * q - m.b * p := IntWalk.i64_in _ (by omega)
      have e7 : IntKind.i64.wrap (px * 65536) = px * 65536 := IntWalk.i64_in _ (by omega)
      have e8 : IntKind.i64.wrap (py * 65536) = py * 65536 := IntWalk.i64_in _ (by omega)
      have e9 : IntKind.i64.wrap (px * 65536 - m.e) = p := by rw [← hp]; exact IntWalk.i64_in _ (by omega)
      have e10 : IntKind.i64.wrap (py * 65536 - m.f) = q := by rw [← hq]; exact IntWalk.i64_in _ (by omega)
      obtain ⟨⟨u, uo⟩, hU⟩ : ∃ U, mdv (m.d * p - m.c * q) D = U := ⟨_, rfl⟩
      obtain ⟨⟨v, vo⟩, hV⟩ : ∃ V, mdv (m.a * q - m.b * p) D = V := ⟨_, rfl⟩
      rw [hU, hV] at HR3
      have HU := Lib.hid fun W => mulDiv_any (m.d * p - m.c * q) D (u, uo) W (by omega) hdb hU
      have HV := Lib.hid fun W => mulDiv_any (m.a * q - m.b * p) D (v, vo) W (by omega) hdb hV
      clear hU hV g1 g2 g3 g4 hp2 hq2 hp hq hD hn hn2 hm HR
      go_wp2_with fail
      refine (HDm.out _).mono ?_; rintro e w2 ⟨rfl, hb2⟩
      have B2 := btr B1 hb2
      have hA2 := hA1.below hb2
      clear a0 a1 a2 a3 a4 a5 hA1 hb2 B1
      have a0 := hA2.c 0 _ rfl
      have a1 := hA2.c 1 _ rfl
      have a2 := hA2.c 2 _ rfl
      have a3 := hA2.c 3 _ rfl
      have a4 := hA2.c 4 _ rfl
      have a5 := hA2.c 5 _ rfl
      by_cases hD0 : D = 0
      · have HR2 := Lib.hid (show R = (0, 0, 14) by rw [HR3.out]; simp [hD0])
        subst hD0
        go_wp2_with fail
        go_ret3
        rw [HR2.out]
        exact ⟨rfl, B2⟩
      · have hD1 : (D == 0) = false := by simp [hD0]
        have HR4 := Lib.hid (show R = if uo && vo then nearP u v 1073741823 else (0, 0, 2) by rw [HR3.out]; simp [hD0])
        have HNN := Lib.hid fun W => matNear_big u v W
        unfold vP at HNN
        clear HR3 hD0
        go_wp2_with fail
        go_quiet (fail)
        go_wp2_with fail
        refine (HU.out _).mono ?_; rintro e w3 ⟨rfl, hb3⟩
        have hbq := btr (bdrewN (Below.refl _ w2) nq) hb3
        have B3 := btr B2 hbq
        have hA3 := hA2.below hbq
        clear a0 a1 a2 a3 a4 a5 hA2 hb3 B2
        have a0 := hA3.c 0 _ rfl
        have a1 := hA3.c 1 _ rfl
        have a2 := hA3.c 2 _ rfl
        have a3 := hA3.c 3 _ rfl
        have a4 := hA3.c 4 _ rfl
        have a5 := hA3.c 5 _ rfl
        go_wp2_with fail
        refine (HV.out _).mono ?_; rintro e w4 ⟨rfl, hb4⟩
        have B4 := btr B3 hb4
        clear a0 a1 a2 a3 a4 a5 hA3 hb4 B3 hbq
        cases uo
        · have HR2 := Lib.hid (show R = (0, 0, 2) by rw [HR4.out]; simp)
          go_wp2_with fail
          go_ret3
          rw [HR2.out]
          exact ⟨rfl, B4⟩
        · cases vo
          · have HR2 := Lib.hid (show R = (0, 0, 2) by rw [HR4.out]; simp)
            go_wp2_with fail
            go_ret3
            rw [HR2.out]
            exact ⟨rfl, B4⟩
          · have HR2 := Lib.hid (show R = nearP u v 1073741823 by rw [HR4.out]; simp)
            go_wp2_with fail
            refine (HNN.out _).mono ?_; rintro e w5 ⟨rfl, rfl⟩
            go_wp2_with fail
            go_ret3
            rw [HR2.out]
            exact ⟨rfl, B4⟩
end Go.Proofs.YtdfkbbcoolgfiaaGreat
