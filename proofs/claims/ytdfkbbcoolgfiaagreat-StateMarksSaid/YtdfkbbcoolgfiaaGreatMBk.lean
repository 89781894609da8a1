/- The reference's a 65536 / d: Abs, Times, divide, sign, MulDiv, ratio. -/
import Derived.Test.YtdfkbbcoolgfiaaGreatMSt
import Derived.Test.YtdfkbbcoolgfiaaGreatMWide
import Derived.Test.YtdfkbbcoolgfiaaGreatMSr
import Derived.Test.YtdfkbbcoolgfiaaGreatMTh
namespace Go.Proofs.YtdfkbbcoolgfiaaGreat
open Go.RowKit Go.BigFrame

theorem rAbs_any (v : Int) (w : World) (h : -9223372036854775807 ≤ v ∧ v ≤ 9223372036854775807) :
    Calls Tryz.prog 76 #[.int .i64 v] w fun e w' => e = .returned (.int .u64 (v.natAbs : Int)) ∧ w = w' := by
  obtain ⟨h0, h1⟩ := h
  go_enter Tryz.func76, Tryz.ntmps76
  by_cases hv : v < 0
  · go_wp2
    go_ret
    exact ⟨ret_int (by omega), rfl⟩
  · go_wp2
    go_ret
    exact ⟨ret_int (by omega), rfl⟩
def sgn3 (v : Int) : Int := if v < 0 then -1 else if 0 < v then 1 else 0
theorem rSign_any (v : Int) (w : World) : Calls Tryz.prog 183 #[.int .i64 v] w fun e w' => e = .returned (.int .i64 (sgn3 v)) ∧ w = w' := by
  obtain ⟨R, hR⟩ : ∃ R, sgn3 v = R := ⟨_, rfl⟩
  rw [hR]
  have HR := Lib.hid hR
  clear hR
  by_cases h1 : v < 0
  · have HR2 : Hid (R = -1) := Lib.hid (by rw [← HR.out]; unfold sgn3; rw [if_pos h1])
    go_enter Tryz.func183, Tryz.ntmps183
    go_wp2
    go_ret
    exact ⟨ret_int HR2.out.symm, rfl⟩
  · by_cases h2 : 0 < v
    · have HR2 : Hid (R = 1) := Lib.hid (by rw [← HR.out]; unfold sgn3; rw [if_neg h1, if_pos h2])
      go_enter Tryz.func183, Tryz.ntmps183
      go_wp2
      go_ret
      exact ⟨ret_int HR2.out.symm, rfl⟩
    · have HR2 : Hid (R = 0) := Lib.hid (by rw [← HR.out]; unfold sgn3; rw [if_neg h1, if_neg h2])
      go_enter Tryz.func183, Tryz.ntmps183
      go_wp2
      go_ret
      exact ⟨ret_int HR2.out.symm, rfl⟩
set_option maxRecDepth 100000 in
set_option maxHeartbeats 1000000 in
theorem rTimes_any (a : Int) (w : World) (ha : 0 ≤ a ∧ a ≤ 9223372036854775807) :
    Calls Tryz.prog 182 #[.int .u64 a, .int .u64 65536] w fun e w' => e = .returned (.agg #[.int .u64 (a * 65536 / 18446744073709551616), .int .u64 (a * 65536 % 18446744073709551616)]) ∧ Below w.heap.size w w' := by
  obtain ⟨a0, a1⟩ := ha
  obtain ⟨hi, hhi⟩ : ∃ z, z = a * 65536 / 18446744073709551616 := ⟨_, rfl⟩
  obtain ⟨lo, hlo⟩ : ∃ z, z = a * 65536 % 18446744073709551616 := ⟨_, rfl⟩
  rw [← hhi, ← hlo]
  have e1 : bits .and .u64 a 4294967295 = a % 4294967296 := and_low32 a a0 (by omega)
  have e2 : bits .and .u64 65536 4294967295 = 65536 := rfl
  have e3 : IntKind.u64.wrap (a % 4294967296 * 65536) = a % 4294967296 * 65536 := u64_in (by omega) (by omega)
  have e4 : IntKind.u64.wrap (a / 4294967296 * 65536) = a / 4294967296 * 65536 := u64_in (by omega) (by omega)
  have e8 : IntKind.u64.wrap 0 = 0 := rfl
  obtain ⟨m, hm⟩ : ∃ m, m = a / 4294967296 * 65536 + a % 4294967296 * 65536 / 4294967296 := ⟨_, rfl⟩
  have e9 : IntKind.u64.wrap (a / 4294967296 * 65536 + a % 4294967296 * 65536 / 4294967296) = m := by rw [hm]; exact u64_in (by omega) (by omega)
  have hm0 : 0 ≤ m ∧ m < 281474976710656 := by omega
  have e10 : bits .and .u64 m 4294967295 = m % 4294967296 := and_low32 m (by omega) (by omega)
  have e11 : bits .and .u64 (a % 4294967296 * 65536) 4294967295 = a % 4294967296 * 65536 % 4294967296 := and_low32 _ (by omega) (by omega)
  have e12 : IntKind.u64.wrap (m % 4294967296) = m % 4294967296 := u64_in (by omega) (by omega)
  have e13 : m % 4294967296 / 4294967296 = 0 := by omega
  have e14 : IntKind.u64.wrap (m / 4294967296) = hi := by rw [u64_in (by omega) (by omega), hhi, hm]; omega
  have e17 : IntKind.u64.wrap hi = hi := u64_in (by omega) (by omega)
  have e15 : IntKind.u64.wrap (m % 4294967296 * 4294967296) = m % 4294967296 * 4294967296 := u64_in (by omega) (by omega)
  have e16 : bits .or .u64 (m % 4294967296 * 4294967296) (a % 4294967296 * 65536 % 4294967296) = lo := by
    rw [or_add32 (by omega) (by omega) (by omega) (by omega), hlo, hm]; omega
  clear hm hhi hlo
  go_enter Tryz.func182, Tryz.ntmps182
  go_wp2
  exact bodyPost_ret (v := .agg #[.int .u64 hi, .int .u64 lo]) (by simp [results, Tryz.results182, go_sem, *]) rfl ⟨rfl, bal (Below.refl _ _) _⟩
theorem and63 (j : Nat) (hj : j < 128) : bits .and .i64 (j : Int) 63 = ((j % 64 : Nat) : Int) := by
  show IntKind.i64.wrap ((BitVec.ofInt 64 (j : Int) &&& BitVec.ofInt 64 63).toNat : Int) = _
  have h1 : (BitVec.ofInt 64 (63 : Int)).toNat = 2 ^ 6 - 1 := rfl
  have h2 : (BitVec.ofInt 64 (j : Int)).toNat = j := by rw [BitVec.toNat_ofInt]; omega
  rw [BitVec.toNat_and, h1, h2, Nat.and_two_pow_sub_one_eq_mod]
  exact IntWalk.i64_in _ (by omega)
/-- A number of two words by one; none beyond 2^62. -/
def divR (n dd : Nat) : Int × Int × Bool := if n / dd < 4611686018427387904 then (((n / dd : Nat) : Int), ((n % dd : Nat) : Int), true) else (0, 0, false)
set_option maxRecDepth 100000 in
set_option maxHeartbeats 4000000 in
theorem rDivide_any (n dd : Nat) (R : Int × Int × Bool) (w : World) (hn : n < 340282366920938463463374607431768211456) (hd : 1 ≤ dd ∧ dd ≤ 4611686018427387904) (hR : divR n dd = R) :
    Calls Tryz.prog 181 #[.agg #[.int .u64 ((n / 18446744073709551616 : Nat) : Int), .int .u64 ((n % 18446744073709551616 : Nat) : Int)], .int .u64 (dd : Int)] w
      fun e w' => e = .returned (.tuple #[.int .u64 R.1, .int .u64 R.2.1, .bool R.2.2]) ∧ Below w.heap.size w w' := by
  obtain ⟨lo, hlo⟩ : ∃ lo, n % 18446744073709551616 = lo := ⟨_, rfl⟩
  obtain ⟨hi, hhi⟩ : ∃ hi, n / 18446744073709551616 = hi := ⟨_, rfl⟩
  rw [hlo, hhi]
  have hlo2 : lo < 18446744073709551616 := by omega
  have hhi2 : hi < 18446744073709551616 := by omega
  have HLO := Lib.hid hlo
  have HHI := Lib.hid hhi
  have HR := Lib.hid hR
  have HN := Lib.hid hn
  obtain ⟨w0, hw0⟩ : ∃ w0 : World, w0 = w.alloc (.cells #[.int .u64 (hi : Int), .int .u64 (lo : Int)] 220) := ⟨_, rfl⟩
  have hB0 : Below w.heap.size w w0 := by rw [hw0]; exact bal (Below.refl _ _) _
  have hA : BC w0 w.heap.size [.int .u64 (hi : Int), .int .u64 (lo : Int)] := by rw [hw0]; exact BC.new [.int .u64 (hi : Int), .int .u64 (lo : Int)] 220 rfl
  have c0 := hA.c 0 _ rfl
  have c1 := hA.c 1 _ rfl
  clear hR hlo hhi hn hA
  go_enter Tryz.func181, Tryz.ntmps181
  go_upto_region 1 with (fail)
  rw [← hw0]
  clear hw0
  go_wp2_with fail
  go_loopw [7, 8, 9] (fun s7 s8 s9 wr => ∃ (k r Q : Nat), k ≤ 128 ∧ s9 = .int .i64 ((k : Int) - 1) ∧ s8 = .int .u64 (r : Int) ∧ s7 = .int .u64 (Q : Int) ∧ w0 = wr ∧ r < dd ∧ Q < 4611686018427387904 ∧ Hid (n / 2 ^ k % dd = r ∧ n / 2 ^ k / dd = Q)) (fun _ _ s9 _ => (intOf s9 + 1).toNat)
  case atStart =>
    refine ⟨128, 0, 0, by omega, rfl, rfl, rfl, rfl, by omega, by omega, Lib.hid ?_⟩
    have e64 : (2 : Nat) ^ 128 = 340282366920938463463374607431768211456 := by decide
    rw [e64, Nat.div_eq_of_lt HN.out, Nat.zero_mod, Nat.zero_div]
    exact ⟨rfl, rfl⟩
  case round =>
    obtain ⟨k, r, Q, hk, rfl, rfl, rfl, rfl, hrD, hQ1, hI⟩ := hrel
    rcases Nat.eq_zero_or_pos k with rfl | hk0
    · have HF : Hid (R = ((Q : Int), (r : Int), true)) := Lib.hid (by
        obtain ⟨i1, i2⟩ := hI.out
        rw [Nat.pow_zero, Nat.div_one] at i1 i2
        rw [← HR.out]
        unfold divR
        rw [i2, if_pos hQ1, i1])
      go_wp2_with fail
      go_ret3
      rw [HF.out]
      exact ⟨rfl, hB0⟩
    · obtain ⟨j, rfl⟩ : ∃ j, k = j + 1 := ⟨k - 1, by omega⟩
      have ej : ((j + 1 : Nat) : Int) - 1 = j := by omega
      rw [ej]
      obtain ⟨b, hb⟩ : ∃ b, n / 2 ^ j % 2 = b := ⟨_, rfl⟩
      have hb1' : b ≤ 1 := by omega
      obtain ⟨m, hm⟩ : ∃ m, j % 64 = m := ⟨_, rfl⟩
      have hm64 : m < 64 := by omega
      obtain ⟨P, hP⟩ : ∃ P, 2 ^ m = P := ⟨_, rfl⟩
      have hP0 : 0 < P := by rw [← hP]; exact Nat.two_pow_pos m
      have x1 : (2 : Int) ^ m = (P : Int) := by rw [← hP]; simp
      have a63 : bits .and .i64 (j : Int) 63 = (m : Int) := by rw [and63 j (by omega), hm]
      have u63 : IntKind.u64.wrap (m : Int) = (m : Int) := u64_in (by omega) (by omega)
      have hbit : ∀ z : Nat, z < 18446744073709551616 → bits .and .u64 ((z : Int) / (P : Int)) 1 = ((z / P % 2 : Nat) : Int) := fun z hz => by
        have h4 : (z : Int) / (P : Int) = ((z / P : Nat) : Int) := (Int.natCast_ediv z P).symm
        have h5 : z / P ≤ z := Nat.div_le_self _ _
        rw [h4]
        obtain ⟨y, hy⟩ : ∃ y, z / P = y := ⟨_, rfl⟩
        rw [hy] at h5 ⊢
        rw [and_one_u64 _ (by omega) (by omega)]
        omega
      have x2 := hbit lo hlo2
      have x22 := hbit hi hhi2
      have x3 : bits .or .u64 ((r : Int) * 2) (b : Int) = ((2 * r + b : Nat) : Int) := or_low (by omega) hb1'
      obtain ⟨i1, i2⟩ := hI.out
      obtain ⟨s1, s2⟩ := div_step (b := b) (show 0 < dd by omega) i2 i1 hb1'
      have hM := half_of n j
      rw [hb] at hM
      rw [← hM] at s1 s2
      have hle : Q * 2 ^ (j + 1) ≤ n / dd := by rw [← i2]; exact quo_le n dd (j + 1)
      have S1 := Lib.hid s1
      have S2 := Lib.hid s2
      have HLE := Lib.hid hle
      have hblo : j < 64 → lo / P % 2 = b := fun hj => by
        have hmj : m = j := by omega
        have h3 := bit_of n j hj
        rw [HLO.out, hb] at h3
        rw [← hP, hmj]; exact h3
      have hbhi : 64 ≤ j → hi / P % 2 = b := fun hj => by
        have hmj : j = 64 + m := by omega
        have e64 : (18446744073709551616 : Nat) = 2 ^ 64 := by decide
        rw [← hb, ← HHI.out, e64, Nat.div_div_eq_div_mul, ← hP, ← Nat.pow_add, hmj]
      have HBL := Lib.hid hblo
      have HBH := Lib.hid hbhi
      obtain ⟨zl, hzl⟩ : ∃ z, lo / P % 2 = z := ⟨_, rfl⟩
      obtain ⟨zh, hzh⟩ : ∃ z, hi / P % 2 = z := ⟨_, rfl⟩
      rw [hzl] at x2 HBL
      rw [hzh] at x22 HBH
      have HM := Lib.hid hm
      have x7 : (r : Int) / 9223372036854775808 = 0 := by omega
      clear hI i1 i2 hM hle s1 s2 hb hP hblo hbhi hzl hzh hm hbit
      have hbig : 2305843009213693952 ≤ Q → R = (0, 0, false) := fun hq => by
        rw [← HR.out]
        unfold divR
        rw [if_neg]
        have h1 := HLE.out
        have h2 : 2 ≤ 2 ^ (j + 1) := by
          have := Nat.pow_le_pow_right (show 0 < 2 by omega) (show 1 ≤ j + 1 by omega)
          simpa using this
        have h3 := Nat.mul_le_mul hq h2
        omega
      have HBIG := Lib.hid hbig
      have x9 : bits .or .u64 ((Q : Int) * 2) 1 = ((2 * Q + 1 : Nat) : Int) := or_low (by omega) (Nat.le_refl 1)
      have x10 : bits .or .u64 ((Q : Int) * 2) 0 = ((2 * Q : Nat) : Int) := or_low (r := Q) (b := 0) (by omega) (by omega)
      clear hbig
      by_cases hj : j < 64
      · rw [HBL.out hj] at x2
        clear x22
        by_cases hge : dd ≤ 2 * r + b
        · have x6 : IntKind.u64.wrap (((2 * r + b : Nat) : Int) - (dd : Int)) = ((2 * r + b - dd : Nat) : Int) := by rw [u64_in (by omega) (by omega)]; omega
          by_cases hq : Q < 2305843009213693952
          · have HQ1 := Lib.hid hq
            have qd : decide ((2305843009213693952 : Int) ≤ (Q : Int)) = false := decide_eq_false (by omega)
            have x11 : IntKind.u64.wrap ((Q : Int) * 2) = (Q : Int) * 2 := u64_in (by omega) (by omega)
            clear hq hQ1
            go_wp2_with fail
            go_roundw
            case rel =>
              have hs := S2.out hge
              have hq := HQ1.out
              exact ⟨j, 2 * r + b - dd, 2 * Q + 1, by omega, by congr 1, by congr 1; omega, by congr 1, by trivial, by omega, by omega, Lib.hid ⟨hs.2, hs.1⟩⟩
            case measure => simp [intOf]
          · have HF := Lib.hid (HBIG.out (by omega))
            have qd : decide ((2305843009213693952 : Int) ≤ (Q : Int)) = true := decide_eq_true (by omega)
            clear hq hQ1
            go_wp2_with fail
            try rw [Exit.noGoto_ret]
            go_ret3
            rw [HF.out]
            exact ⟨rfl, hB0⟩
        · by_cases hq : Q < 2305843009213693952
          · have HQ1 := Lib.hid hq
            have qd : decide ((2305843009213693952 : Int) ≤ (Q : Int)) = false := decide_eq_false (by omega)
            have x11 : IntKind.u64.wrap ((Q : Int) * 2) = (Q : Int) * 2 := u64_in (by omega) (by omega)
            clear hq hQ1
            go_wp2_with fail
            go_roundw
            case rel =>
              have hs := S1.out (by omega)
              have hq := HQ1.out
              exact ⟨j, 2 * r + b, 2 * Q, by omega, by congr 1, by congr 1, by congr 1, by trivial, by omega, by omega, Lib.hid ⟨hs.2, hs.1⟩⟩
            case measure => simp [intOf]
          · have HF := Lib.hid (HBIG.out (by omega))
            have qd : decide ((2305843009213693952 : Int) ≤ (Q : Int)) = true := decide_eq_true (by omega)
            clear hq hQ1
            go_wp2_with fail
            try rw [Exit.noGoto_ret]
            go_ret3
            rw [HF.out]
            exact ⟨rfl, hB0⟩
      · rw [HBH.out (by omega)] at x22
        have hjm : (j : Int) - 64 = (m : Int) := by have := HM.out; omega
        have x8 : IntKind.u64.wrap ((j : Int) - 64) = (m : Int) := by rw [hjm]; exact u63
        clear hjm
        by_cases hge : dd ≤ 2 * r + b
        · have x6 : IntKind.u64.wrap (((2 * r + b : Nat) : Int) - (dd : Int)) = ((2 * r + b - dd : Nat) : Int) := by rw [u64_in (by omega) (by omega)]; omega
          by_cases hq : Q < 2305843009213693952
          · have HQ1 := Lib.hid hq
            have qd : decide ((2305843009213693952 : Int) ≤ (Q : Int)) = false := decide_eq_false (by omega)
            have x11 : IntKind.u64.wrap ((Q : Int) * 2) = (Q : Int) * 2 := u64_in (by omega) (by omega)
            clear hq hQ1
            go_wp2_with fail
            go_roundw
            case rel =>
              have hs := S2.out hge
              have hq := HQ1.out
              exact ⟨j, 2 * r + b - dd, 2 * Q + 1, by omega, by congr 1, by congr 1; omega, by congr 1, by trivial, by omega, by omega, Lib.hid ⟨hs.2, hs.1⟩⟩
            case measure => simp [intOf]
          · have HF := Lib.hid (HBIG.out (by omega))
            have qd : decide ((2305843009213693952 : Int) ≤ (Q : Int)) = true := decide_eq_true (by omega)
            clear hq hQ1
            go_wp2_with fail
            try rw [Exit.noGoto_ret]
            go_ret3
            rw [HF.out]
            exact ⟨rfl, hB0⟩
        · by_cases hq : Q < 2305843009213693952
          · have HQ1 := Lib.hid hq
            have qd : decide ((2305843009213693952 : Int) ≤ (Q : Int)) = false := decide_eq_false (by omega)
            have x11 : IntKind.u64.wrap ((Q : Int) * 2) = (Q : Int) * 2 := u64_in (by omega) (by omega)
            clear hq hQ1
            go_wp2_with fail
            go_roundw
            case rel =>
              have hs := S1.out (by omega)
              have hq := HQ1.out
              exact ⟨j, 2 * r + b, 2 * Q, by omega, by congr 1, by congr 1, by congr 1, by trivial, by omega, by omega, Lib.hid ⟨hs.2, hs.1⟩⟩
            case measure => simp [intOf]
          · have HF := Lib.hid (HBIG.out (by omega))
            have qd : decide ((2305843009213693952 : Int) ≤ (Q : Int)) = true := decide_eq_true (by omega)
            clear hq hQ1
            go_wp2_with fail
            try rw [Exit.noGoto_ret]
            go_ret3
            rw [HF.out]
            exact ⟨rfl, hB0⟩
set_option maxRecDepth 100000 in
theorem rMulDiv_no (a : Int) (w : World) : Calls Tryz.prog 166 #[.int .i64 a, .int .i64 65536, .int .i64 0] w fun e w' => e = .returned (.tuple #[.int .i64 0, .bool false]) ∧ Below w.heap.size w w' := by
  go_enter Tryz.func166, Tryz.ntmps166
  go_wp2_with fail
  go_ret2
  exact ⟨rfl, Below.refl _ _⟩
theorem up_wraps {q : Nat} (h : q < 4611686018427387904) : IntKind.u64.wrap ((q : Int) + 1) = (q : Int) + 1 ∧ IntKind.i64.wrap ((q : Int) + 1) = (q : Int) + 1 ∧ wrap64 (-((q : Int) + 1)) = -((q : Int) + 1) ∧ IntKind.i64.wrap (-((q : Int) + 1)) = -((q : Int) + 1) :=
  ⟨u64_in (by omega) (by omega), IntWalk.i64_in _ (by omega), IntWalk.wrap64_in _ (by omega), IntWalk.i64_in _ (by omega)⟩
theorem down_wraps {q : Nat} (h : q < 4611686018427387904) : IntKind.i64.wrap (q : Int) = (q : Int) ∧ wrap64 (-(q : Int)) = -(q : Int) ∧ IntKind.i64.wrap (-(q : Int)) = -(q : Int) :=
  ⟨IntWalk.i64_in _ (by omega), IntWalk.wrap64_in _ (by omega), IntWalk.i64_in _ (by omega)⟩
/-- a 65536 / d, rounded; none beyond 2^62. -/
def rmdv (a d : Int) : Int × Bool :=
  if d = 0 then (0, false) else if a.natAbs * 65536 / d.natAbs < 4611686018427387904 then
    ((if sgn3 a * sgn3 d < 0 then -1 else 1) * ((a.natAbs * 65536 / d.natAbs : Nat) + if upB (a.natAbs * 65536 / d.natAbs) (a.natAbs * 65536 % d.natAbs) d.natAbs then 1 else 0 : Int), true) else (0, false)
theorem sgn3_mul (a : Int) : sgn3 a * 1 = sgn3 a := Int.mul_one _
theorem sgn3_bd (a : Int) : -1 ≤ sgn3 a ∧ sgn3 a ≤ 1 := by unfold sgn3; split; omega; split <;> omega
set_option maxRecDepth 100000 in
set_option maxHeartbeats 4000000 in
theorem rMulDiv_any (a d : Int) (R : Int × Bool) (w : World) (ha : -4611686018427387904 ≤ a ∧ a ≤ 4611686018427387904) (hd : -4611686018427387904 ≤ d ∧ d ≤ 4611686018427387904) (hR : rmdv a d = R) :
    Calls Tryz.prog 166 #[.int .i64 a, .int .i64 65536, .int .i64 d] w fun e w' => e = .returned (.tuple #[.int .i64 R.1, .bool R.2]) ∧ Below w.heap.size w w' := by
  have HR := Lib.hid hR
  clear hR
  by_cases hd0 : d = 0
  · subst hd0
    have HR2 : R = (0, false) := by rw [← HR.out]; unfold rmdv; simp
    rw [HR2]
    exact rMulDiv_no a w
  · have hd1 : (d == 0) = false := by simp [hd0]
    obtain ⟨n, hn⟩ : ∃ n, a.natAbs * 65536 = n := ⟨_, rfl⟩
    obtain ⟨dd, hdd⟩ : ∃ dd, d.natAbs = dd := ⟨_, rfl⟩
    obtain ⟨x, hx⟩ : ∃ x, a.natAbs = x := ⟨_, rfl⟩
    have hdd2 : 1 ≤ dd ∧ dd ≤ 4611686018427387904 := by omega
    have hx2 : x ≤ 4611686018427387904 := by omega
    have HA := Lib.hid fun W => rAbs_any a W (by omega)
    have HB := Lib.hid fun W => rAbs_any 65536 W (by omega)
    have HB2 : Hid (∀ W, Calls Tryz.prog 76 #[.int .i64 65536] W fun e w' => e = .returned (.int .u64 65536) ∧ W = w') := HB
    have HD := Lib.hid fun W => rAbs_any d W (by omega)
    have HT := Lib.hid fun W => rTimes_any (x : Int) W (by omega)
    have p1 : (x : Int) * 65536 / 18446744073709551616 = ((n / 18446744073709551616 : Nat) : Int) := by omega
    have p2 : (x : Int) * 65536 % 18446744073709551616 = ((n % 18446744073709551616 : Nat) : Int) := by omega
    rw [p1, p2] at HT
    rw [hx] at HA
    rw [hdd] at HD
    have HSA := Lib.hid fun W => rSign_any a W
    have HSB := Lib.hid fun W => rSign_any 65536 W
    have HSB2 : Hid (∀ W, Calls Tryz.prog 183 #[.int .i64 65536] W fun e w' => e = .returned (.int .i64 1) ∧ W = w') := HSB
    have HSD := Lib.hid fun W => rSign_any d W
    have hsa := sgn3_bd a
    have hsd := sgn3_bd d
    have HR0 : R = if n / dd < 4611686018427387904 then ((if sgn3 a * sgn3 d < 0 then -1 else 1) * (((n / dd : Nat) : Int) + if upB (n / dd) (n % dd) dd then 1 else 0), true) else (0, false) := by
      rw [← HR.out]; unfold rmdv; rw [if_neg hd0, hn, hdd]
    obtain ⟨sa, hsae⟩ : ∃ s, sgn3 a = s := ⟨_, rfl⟩
    obtain ⟨sd, hsde⟩ : ∃ s, sgn3 d = s := ⟨_, rfl⟩
    rw [hsae] at HSA hsa HR0
    rw [hsde] at HSD hsd HR0
    have s1 : IntKind.i64.wrap (sa * 1) = sa := by rw [Int.mul_one]; exact IntWalk.i64_in _ (by omega)
    have s3 : IntKind.i64.wrap sa = sa := IntWalk.i64_in _ (by omega)
    have s4 := mulI_bd (a := sa) (b := sd) (A := 1) (B := 1) (by omega) (by omega) (by omega)
    have s2 : IntKind.i64.wrap (sa * sd) = sa * sd := IntWalk.i64_in _ (by omega)
    obtain ⟨nh, hnh⟩ : ∃ z, n / 18446744073709551616 = z := ⟨_, rfl⟩
    obtain ⟨nl, hnl⟩ : ∃ z, n % 18446744073709551616 = z := ⟨_, rfl⟩
    have hnb : n < 340282366920938463463374607431768211456 := by omega
    have hrm : n % dd < dd := Nat.mod_lt _ (by omega)
    obtain ⟨q, hq⟩ : ∃ q, n / dd = q := ⟨_, rfl⟩
    obtain ⟨r, hr⟩ : ∃ r, n % dd = r := ⟨_, rfl⟩
    rw [hr] at hrm HR0
    rw [hq] at HR0
    have hdvd : divR n dd = if q < 4611686018427387904 then ((q : Int), (r : Int), true) else (0, 0, false) := by unfold divR; rw [hq, hr]
    have HV := Lib.hid fun E (hE : divR n dd = E) W => rDivide_any n dd E W hnb hdd2 hE
    rw [hnh, hnl] at HT HV
    have HDV := Lib.hid hdvd
    have HR5 := Lib.hid HR0
    clear HB HSB hd0 hn hdd hx p1 p2 ha hd hnh hnl hx2 s4 hsae hsde hnb hq hr hdvd HR HR0
    by_cases hlt : q < 4611686018427387904
    · have HV2 := Lib.hid (HV.out ((q : Int), (r : Int), true) (by rw [HDV.out, if_pos hlt]))
      have HR4 : Hid (R = ((if sa * sd < 0 then -1 else 1) * ((q : Int) + if upB q r dd then 1 else 0), true)) := Lib.hid (by rw [HR5.out, if_pos hlt])
      simp only at HV2
      have x1 : IntKind.u64.wrap ((dd : Int) - (r : Int)) = (dd : Int) - (r : Int) := u64_in (by omega) (by omega)
      have x2 : bits .and .u64 (q : Int) 1 = (q : Int) % 2 := and_one_u64 _ (by omega) (by omega)
      clear HV HDV HR5
      go_enter Tryz.func166, Tryz.ntmps166
      go_wp2_with fail
      refine (HA.out _).mono ?_; rintro e w' ⟨rfl, rfl⟩
      go_wp2_with fail
      refine (HB2.out _).mono ?_; rintro e w' ⟨rfl, rfl⟩
      go_wp2_with fail
      refine (HT.out _).mono ?_; rintro e w1 ⟨rfl, B1⟩
      go_wp2_with fail
      refine (HD.out _).mono ?_; rintro e w' ⟨rfl, rfl⟩
      go_wp2_with fail
      refine (HV2.out _).mono ?_; rintro e w2 ⟨rfl, hb2⟩
      have B2 := btr B1 hb2
      clear HA HB2 HT HV2 B1 hb2
      go_wp2_with fail
      refine (HD.out _).mono ?_; rintro e w' ⟨rfl, rfl⟩
      by_cases c1 : dd - r < r
      · have HU : upB q r dd = true := by unfold upB; simp [c1]
        have x3 : decide ((dd : Int) - (r : Int) < (r : Int)) = true := decide_eq_true (by omega)
        have HR3 : Hid (R = ((if sa * sd < 0 then -1 else 1) * ((q : Int) + 1), true)) := Lib.hid (by rw [HR4.out, HU]; rfl)
        obtain ⟨z1, z2, z3, z4⟩ := up_wraps hlt
        clear hlt c1
        try clear c2
        go_wp2_with fail
        refine (HSA.out _).mono ?_; rintro e w' ⟨rfl, rfl⟩
        go_wp2_with fail
        refine (HSB2.out _).mono ?_; rintro e w' ⟨rfl, rfl⟩
        go_wp2_with fail
        refine (HSD.out _).mono ?_; rintro e w' ⟨rfl, rfl⟩
        by_cases hsn : sa * sd < 0
        · have HR2 : Hid (R = (-((q : Int) + 1), true)) := Lib.hid (by rw [HR3.out, if_pos hsn]; simp <;> omega)
          have sdd : decide (sa * sd < 0) = true := decide_eq_true hsn
          clear hsn
          go_wp2_with fail
          go_ret2
          rw [HR2.out]
          exact ⟨rfl, B2⟩
        · have HR2 : Hid (R = (((q : Int) + 1), true)) := Lib.hid (by rw [HR3.out, if_neg hsn]; simp <;> omega)
          have sdd : decide (sa * sd < 0) = false := decide_eq_false hsn
          clear hsn
          go_wp2_with fail
          go_ret2
          rw [HR2.out]
          exact ⟨rfl, B2⟩
      · have x3 : decide ((dd : Int) - (r : Int) < (r : Int)) = false := decide_eq_false (by omega)
        by_cases c2 : r = dd - r
        · have x4 : ((r : Int) == (dd : Int) - (r : Int)) = true := by simp; omega
          by_cases c3 : q % 2 = 1
          · have HU : upB q r dd = true := by unfold upB; simp [c3]; omega
            have x5 : ((q : Int) % 2 == 1) = true := by simp; omega
            have HR3 : Hid (R = ((if sa * sd < 0 then -1 else 1) * ((q : Int) + 1), true)) := Lib.hid (by rw [HR4.out, HU]; rfl)
            obtain ⟨z1, z2, z3, z4⟩ := up_wraps hlt
            clear hlt c1
            try clear c2
            go_wp2_with fail
            refine (HSA.out _).mono ?_; rintro e w' ⟨rfl, rfl⟩
            go_wp2_with fail
            refine (HSB2.out _).mono ?_; rintro e w' ⟨rfl, rfl⟩
            go_wp2_with fail
            refine (HSD.out _).mono ?_; rintro e w' ⟨rfl, rfl⟩
            by_cases hsn : sa * sd < 0
            · have HR2 : Hid (R = (-((q : Int) + 1), true)) := Lib.hid (by rw [HR3.out, if_pos hsn]; simp <;> omega)
              have sdd : decide (sa * sd < 0) = true := decide_eq_true hsn
              clear hsn
              go_wp2_with fail
              go_ret2
              rw [HR2.out]
              exact ⟨rfl, B2⟩
            · have HR2 : Hid (R = (((q : Int) + 1), true)) := Lib.hid (by rw [HR3.out, if_neg hsn]; simp <;> omega)
              have sdd : decide (sa * sd < 0) = false := decide_eq_false hsn
              clear hsn
              go_wp2_with fail
              go_ret2
              rw [HR2.out]
              exact ⟨rfl, B2⟩
          · have HU : upB q r dd = false := by unfold upB; simp [c3]; omega
            have x5 : ((q : Int) % 2 == 1) = false := by simp; omega
            have HR3 : Hid (R = ((if sa * sd < 0 then -1 else 1) * ((q : Int) + 0), true)) := Lib.hid (by rw [HR4.out, HU]; rfl)
            obtain ⟨z2, z3, z4⟩ := down_wraps hlt
            clear hlt c1
            try clear c2
            go_wp2_with fail
            refine (HSA.out _).mono ?_; rintro e w' ⟨rfl, rfl⟩
            go_wp2_with fail
            refine (HSB2.out _).mono ?_; rintro e w' ⟨rfl, rfl⟩
            go_wp2_with fail
            refine (HSD.out _).mono ?_; rintro e w' ⟨rfl, rfl⟩
            by_cases hsn : sa * sd < 0
            · have HR2 : Hid (R = (-((q : Int)), true)) := Lib.hid (by rw [HR3.out, if_pos hsn]; simp <;> omega)
              have sdd : decide (sa * sd < 0) = true := decide_eq_true hsn
              clear hsn
              go_wp2_with fail
              go_ret2
              rw [HR2.out]
              exact ⟨rfl, B2⟩
            · have HR2 : Hid (R = (((q : Int)), true)) := Lib.hid (by rw [HR3.out, if_neg hsn]; simp <;> omega)
              have sdd : decide (sa * sd < 0) = false := decide_eq_false hsn
              clear hsn
              go_wp2_with fail
              go_ret2
              rw [HR2.out]
              exact ⟨rfl, B2⟩
        · have x4 : ((r : Int) == (dd : Int) - (r : Int)) = false := by simp; omega
          have HU : upB q r dd = false := by unfold upB; simp [c2]; omega
          have HR3 : Hid (R = ((if sa * sd < 0 then -1 else 1) * ((q : Int) + 0), true)) := Lib.hid (by rw [HR4.out, HU]; rfl)
          obtain ⟨z2, z3, z4⟩ := down_wraps hlt
          clear hlt c1
          try clear c2
          go_wp2_with fail
          refine (HSA.out _).mono ?_; rintro e w' ⟨rfl, rfl⟩
          go_wp2_with fail
          refine (HSB2.out _).mono ?_; rintro e w' ⟨rfl, rfl⟩
          go_wp2_with fail
          refine (HSD.out _).mono ?_; rintro e w' ⟨rfl, rfl⟩
          by_cases hsn : sa * sd < 0
          · have HR2 : Hid (R = (-((q : Int)), true)) := Lib.hid (by rw [HR3.out, if_pos hsn]; simp <;> omega)
            have sdd : decide (sa * sd < 0) = true := decide_eq_true hsn
            clear hsn
            go_wp2_with fail
            go_ret2
            rw [HR2.out]
            exact ⟨rfl, B2⟩
          · have HR2 : Hid (R = (((q : Int)), true)) := Lib.hid (by rw [HR3.out, if_neg hsn]; simp <;> omega)
            have sdd : decide (sa * sd < 0) = false := decide_eq_false hsn
            clear hsn
            go_wp2_with fail
            go_ret2
            rw [HR2.out]
            exact ⟨rfl, B2⟩
    · have HV2 := Lib.hid (HV.out (0, 0, false) (by rw [HDV.out, if_neg hlt]))
      have HR2 : Hid (R = (0, false)) := Lib.hid (by rw [HR5.out, if_neg hlt])
      simp only at HV2
      clear HV HDV HR5
      go_enter Tryz.func166, Tryz.ntmps166
      go_wp2_with fail
      refine (HA.out _).mono ?_; rintro e w' ⟨rfl, rfl⟩
      go_wp2_with fail
      refine (HB2.out _).mono ?_; rintro e w' ⟨rfl, rfl⟩
      go_wp2_with fail
      refine (HT.out _).mono ?_; rintro e w1 ⟨rfl, B1⟩
      go_wp2_with fail
      refine (HD.out _).mono ?_; rintro e w' ⟨rfl, rfl⟩
      go_wp2_with fail
      refine (HV2.out _).mono ?_; rintro e w2 ⟨rfl, hb2⟩
      go_wp2_with fail
      go_ret2
      rw [HR2.out]
      exact ⟨rfl, btr B1 hb2⟩
def ratR (a d : Int) : Int := if (rmdv a d).2 && fixB (rmdv a d).1 then (rmdv a d).1 else 1073741824
set_option maxRecDepth 100000 in
set_option maxHeartbeats 1000000 in
theorem rRatio_any (a d V : Int) (w : World) (ha : -4611686018427387904 ≤ a ∧ a ≤ 4611686018427387904) (hd : -4611686018427387904 ≤ d ∧ d ≤ 4611686018427387904) (hV : ratR a d = V) :
    Calls Tryz.prog 143 #[.int .i64 a, .int .i64 65536, .int .i64 d] w fun e w' => e = .returned (.int .i64 V) ∧ Below w.heap.size w w' := by
  obtain ⟨⟨v, ok⟩, hr⟩ : ∃ E, rmdv a d = E := ⟨_, rfl⟩
  have HM := Lib.hid fun W => rMulDiv_any a d (v, ok) W ha hd hr
  have HV : Hid (V = if ok && fixB v then v else 1073741824) := Lib.hid (by rw [← hV]; unfold ratR; rw [hr])
  simp only at HM
  clear hr hV ha hd
  go_enter Tryz.func143, Tryz.ntmps143
  go_wp2_with fail
  refine (HM.out _).mono ?_; rintro e w1 ⟨rfl, B1⟩
  cases ok
  · have HV2 : Hid (V = 1073741824) := Lib.hid (by rw [HV.out]; simp)
    go_wp2_with fail
    go_ret
    exact ⟨ret_int HV2.out.symm, B1⟩
  · go_wp2_with fail
    refine (rIsFix_any v _).mono ?_; rintro e w' ⟨rfl, rfl⟩
    cases hf : fixB v
    · have HV2 : Hid (V = 1073741824) := Lib.hid (by rw [HV.out, hf]; simp)
      go_wp2_with fail
      go_ret
      exact ⟨ret_int HV2.out.symm, B1⟩
    · have HV2 : Hid (V = v) := Lib.hid (by rw [HV.out, hf]; simp)
      go_wp2_with fail
      go_ret
      exact ⟨ret_int HV2.out.symm, B1⟩
end Go.Proofs.YtdfkbbcoolgfiaaGreat

namespace Go.Proofs.YtdfkbbcoolgfiaaGreat
open Go.RowKit Go.BigFrame

theorem rat_mdv (a d : Int) (hd : d ≠ 0) : ratR a d = if (mdv a d).2 && fixB (mdv a d).1 then (mdv a d).1 else 1073741824 := by
  obtain ⟨dd, hdd⟩ : ∃ dd, d.natAbs = dd := ⟨_, rfl⟩
  have hdp : 0 < dd := by omega
  obtain ⟨n, hn⟩ : ∃ n, a.natAbs * 65536 = n := ⟨_, rfl⟩
  obtain ⟨q, hq⟩ : ∃ q, n / dd = q := ⟨_, rfl⟩
  obtain ⟨r, hr⟩ : ∃ r, n % dd = r := ⟨_, rfl⟩
  have hF : ∀ z : Nat, 4611686018427387904 ≤ z → fixB (z : Int) = false ∧ fixB (-(z : Int)) = false := fun z hz => by
    constructor
    · simp [fixB]; omega
    · simp [fixB]; omega
  have hmd : mdv a d = if d = 0 ∨ dd ≤ n / 18446744073709551616 then (0, false) else if upB q r dd then (if q + 1 = 18446744073709551616 then (0, false) else sgnQ (q + 1) (decide (a < 0) != decide (d < 0))) else sgnQ q (decide (a < 0) != decide (d < 0)) := by
    unfold mdv; rw [hn, hdd, hq, hr]
  have hrm : rmdv a d = if q < 4611686018427387904 then ((if sgn3 a * sgn3 d < 0 then -1 else 1) * ((q : Int) + if upB q r dd then 1 else 0), true) else (0, false) := by
    unfold rmdv; rw [if_neg hd, hn, hdd, hq, hr]
  by_cases h1 : dd ≤ n / 18446744073709551616
  · have h2 : 18446744073709551616 ≤ q := by
      rw [← hq, Nat.le_div_iff_mul_le hdp]
      have h3 := Nat.mul_le_mul_left 18446744073709551616 h1
      have h4 := Nat.div_mul_le_self n 18446744073709551616
      omega
    rw [if_pos (.inr h1)] at hmd
    rw [if_neg (by omega)] at hrm
    unfold ratR
    rw [hmd, hrm]
  · rw [if_neg (by omega)] at hmd
    by_cases h2 : q < 4611686018427387904
    · rw [if_pos h2] at hrm
      have hs : ∀ u : Nat, u ≤ 4611686018427387904 → (a = 0 → u = 0) → sgnQ u (decide (a < 0) != decide (d < 0)) = ((if sgn3 a * sgn3 d < 0 then -1 else 1) * (u : Int), true) := fun u hu h0 => by
        unfold sgnQ sgn3
        by_cases g1 : a < 0
        · by_cases g2 : d < 0
          · simp [g1, g2]; omega
          · have g3 : 0 < d := by omega
            simp [g1, g2, g3]; omega
        · by_cases g2 : d < 0
          · by_cases g3 : 0 < a
            · simp [g1, g2, g3]; omega
            · have : u = 0 := h0 (by omega)
              subst this
              simp [g1, g2, g3]
          · have g4 : 0 < d := by omega
            by_cases g3 : 0 < a
            · simp [g1, g2, g3, g4]; omega
            · simp [g1, g2, g3, g4]; omega
      have h00 : a = 0 → q = 0 ∧ upB q r dd = false := fun ha => by
        have hn0 : n = 0 := by rw [← hn, ha]; rfl
        have hq0 : q = 0 := by rw [← hq, hn0]; exact Nat.zero_div _
        have hr0 : r = 0 := by rw [← hr, hn0]; exact Nat.zero_mod _
        refine ⟨hq0, ?_⟩
        unfold upB
        rw [hr0, hq0]
        simp <;> omega
      have hsame : mdv a d = rmdv a d := by
        cases hu : upB q r dd
        · rw [hu, if_neg (by simp), hs q (by omega) (fun ha => (h00 ha).1)] at hmd
          rw [hu] at hrm
          rw [hmd, hrm]
          simp
        · rw [hu, if_pos rfl, if_neg (by omega), hs (q + 1) (by omega) (fun ha => by have := (h00 ha).2; rw [hu] at this; cases this)] at hmd
          rw [hu] at hrm
          rw [hmd, hrm]
          simp
      unfold ratR
      rw [hsame]
    · rw [if_neg h2] at hrm
      have hs : ∀ u : Nat, 4611686018427387904 ≤ u → ((sgnQ u (decide (a < 0) != decide (d < 0))).2 && fixB (sgnQ u (decide (a < 0) != decide (d < 0))).1) = false := fun u hu => by
        obtain ⟨f1, f2⟩ := hF u hu
        cases (decide (a < 0) != decide (d < 0))
        · by_cases g : u < 9223372036854775808 <;> simp [sgnQ, g, f1]
        · by_cases g : u ≤ 9223372036854775808 <;> simp [sgnQ, g, f2]
      have hno : ((mdv a d).2 && fixB (mdv a d).1) = false := by
        cases hu : upB q r dd
        · rw [hu, if_neg (by simp)] at hmd
          rw [hmd]; exact hs q (by omega)
        · rw [hu, if_pos rfl] at hmd
          by_cases g : q + 1 = 18446744073709551616
          · rw [if_pos g] at hmd; rw [hmd]; rfl
          · rw [if_neg g] at hmd; rw [hmd]; exact hs (q + 1) (by omega)
      unfold ratR
      rw [hno, hrm]
      rfl
theorem near_rat (u v : Int × Bool) : nearP (if u.2 && fixB u.1 then u.1 else 1073741824) (if v.2 && fixB v.1 then v.1 else 1073741824) 1073741823 = if u.2 && v.2 then nearP u.1 v.1 1073741823 else (0, 0, 2) := by
  obtain ⟨u, p⟩ := u
  obtain ⟨v, q⟩ := v
  have hB : ∀ z, fixB z = decide (-1073741823 ≤ z ∧ z ≤ 1073741823) := fun z => by simp [fixB]
  simp only [hB]
  cases p <;> cases q <;> by_cases h1 : -1073741823 ≤ u ∧ u ≤ 1073741823 <;> by_cases h2 : -1073741823 ≤ v ∧ v ≤ 1073741823 <;> simp [h1, h2, nearP] <;> omega
theorem back_rat (m : Mt) (px py : Int) (h1 : mtB m = true) (h2 : inB px (-8191) 8191 = true) (h3 : inB py (-8191) 8191 = true) (h4 : detM m ≠ 0) :
    backM m px py = nearP (ratR (m.d * (px * 65536 - m.e) - m.c * (py * 65536 - m.f)) (detM m)) (ratR (m.a * (py * 65536 - m.f) - m.b * (px * 65536 - m.e)) (detM m)) 1073741823 := by
  have hn : nearP px py 8191 = (px, py, 0) := by
    unfold nearP
    rw [if_neg]
    simp [inB] at h2 h3
    omega
  unfold backM
  rw [if_neg (by simp [h1]), if_neg (by rw [hn]; simp), if_neg h4, rat_mdv _ _ h4, rat_mdv _ _ h4, near_rat]
theorem back_no (m : Mt) (px py : Int) (h1 : mtB m = true) (h : (inB px (-8191) 8191 && inB py (-8191) 8191) = false) : backM m px py = (0, 0, 1) := by
  have hn : nearP px py 8191 = (0, 0, 2) := by
    unfold nearP
    rw [if_pos]
    simp [inB] at h
    omega
  unfold backM
  rw [if_neg (by simp [h1]), if_pos (by rw [hn]; simp)]
set_option maxRecDepth 100000 in
set_option maxHeartbeats 1000000 in
theorem rDet_any (m : Mt) (w : World) (h : mtB m = true) : Calls Tryz.prog 42 #[mtv m] w fun e w' => e = .returned (.int .i64 (detM m)) ∧ Below w.heap.size w w' := by
  obtain ⟨f1, f2, f3, f4, _, _⟩ := mtB_fix h
  have p1 := mul_fix f1 f4
  have p2 := mul_fix f2 f3
  unfold detM mtv
  have e1 : IntKind.i64.wrap (m.a * m.d) = m.a * m.d := IntWalk.i64_in _ (by omega)
  have e2 : IntKind.i64.wrap (m.b * m.c) = m.b * m.c := IntWalk.i64_in _ (by omega)
  have e3 : IntKind.i64.wrap (m.a * m.d - m.b * m.c) = m.a * m.d - m.b * m.c := IntWalk.i64_in _ (by omega)
  clear f1 f2 f3 f4 p1 p2 h
  go_enter Tryz.func42, Tryz.ntmps42
  go_wp2
  go_ret
  exact ⟨rfl, bal (Below.refl _ _) _⟩
set_option maxRecDepth 100000 in
set_option maxHeartbeats 4000000 in
theorem rBackM_any (m : Mt) (px py : Int) (R : Int × Int × Int) (w : World) (hR : backM m px py = R) : Calls Tryz.prog 101 #[mtv m, .int .i64 px, .int .i64 py] w fun e w' => e = .returned (vP R) ∧ Below w.heap.size w w' := by
  obtain ⟨w0, hw0⟩ : ∃ w0 : World, w0 = w.alloc (.cells (mtC m).toArray 23) := ⟨_, rfl⟩
  have hB0 : Below w.heap.size w w0 := by rw [hw0]; exact bal (Below.refl _ _) _
  have hA : BC w0 w.heap.size (mtC m) := by rw [hw0]; exact BC.new (mtC m) 23 rfl
  have HM := Lib.hid fun W => rMay_any m W
  have HD := Lib.hid fun (h : mtB m = true) W => rDet_any m W h
  unfold mtv at HM HD ⊢
  unfold mtC at hw0
  have HR := Lib.hid hR
  clear hR
  have a0 := hA.c 0 _ rfl
  have a1 := hA.c 1 _ rfl
  have a2 := hA.c 2 _ rfl
  have a3 := hA.c 3 _ rfl
  have a4 := hA.c 4 _ rfl
  have a5 := hA.c 5 _ rfl
  go_enter Tryz.func101, Tryz.ntmps101
  go_upto_region 1 with (fail)
  rw [← hw0]
  clear hw0
  go_wp2_with fail
  refine (HM.out _).mono ?_; rintro e w1 ⟨rfl, hb1⟩
  have B1 := btr hB0 hb1
  have hA1 := hA.below hb1
  clear a0 a1 a2 a3 a4 a5 hb1 hA hB0
  cases hm : mtB m
  · have HR2 := Lib.hid (show R = (0, 0, 1) by rw [← HR.out]; unfold backM; rw [hm]; simp)
    go_wp2_with fail
    go_ret3
    rw [HR2.out]
    exact ⟨rfl, B1⟩
  · go_wp2_with fail
    refine (rIsCoord_any px _).mono ?_; rintro e w' ⟨rfl, rfl⟩
    cases hc1 : inB px (-8191) 8191
    · have HR2 := Lib.hid (show R = (0, 0, 1) by rw [← HR.out, back_no m px py hm (by rw [hc1]; rfl)])
      go_wp2_with fail
      go_ret3
      rw [HR2.out]
      exact ⟨rfl, B1⟩
    · go_wp2_with fail
      refine (rIsCoord_any py _).mono ?_; rintro e w' ⟨rfl, rfl⟩
      cases hc2 : inB py (-8191) 8191
      · have HR2 := Lib.hid (show R = (0, 0, 1) by rw [← HR.out, back_no m px py hm (by rw [hc1, hc2]; rfl)])
        go_wp2_with fail
        go_ret3
        rw [HR2.out]
        exact ⟨rfl, B1⟩
      · have a0 := hA1.c 0 _ rfl
        have a1 := hA1.c 1 _ rfl
        have a2 := hA1.c 2 _ rfl
        have a3 := hA1.c 3 _ rfl
        have a4 := hA1.c 4 _ rfl
        have a5 := hA1.c 5 _ rfl
        have HBR := Lib.hid (back_rat m px py hm hc1 hc2)
        have HBZ := Lib.hid (show detM m = 0 → backM m px py = (0, 0, 14) from fun hz => by
          have hn : nearP px py 8191 = (px, py, 0) := by
            unfold nearP
            rw [if_neg]
            simp [inB] at hc1 hc2
            omega
          unfold backM
          rw [if_neg (by simp [hm]), if_neg (by rw [hn]; simp), if_pos hz])
        have hdb := det_bd hm
        obtain ⟨f1, f2, f3, f4, f5, f6⟩ := mtB_fix hm
        rw [fixB_iff] at f1 f2 f3 f4 f5 f6
        have hpx : -8191 ≤ px ∧ px ≤ 8191 := by simpa [inB] using hc1
        have hpy : -8191 ≤ py ∧ py ≤ 8191 := by simpa [inB] using hc2
        have HDm := Lib.hid (HD.out hm)
        obtain ⟨D, hD⟩ : ∃ D, detM m = D := ⟨_, rfl⟩
        rw [hD] at HDm HBR HBZ hdb
        obtain ⟨p, hp⟩ : ∃ p, px * 65536 - m.e = p := ⟨_, rfl⟩
        obtain ⟨q, hq⟩ : ∃ q, py * 65536 - m.f = q := ⟨_, rfl⟩
        rw [hp, hq] at HBR
        have hp2 : -1610612736 ≤ p ∧ p ≤ 1610612736 := by omega
        have hq2 : -1610612736 ≤ q ∧ q ≤ 1610612736 := by omega
        have g1 := mulI_bd (a := m.d) (b := p) (A := 1073741823) (B := 1610612736) (by omega) (by omega) hp2
        have g2 := mulI_bd (a := m.c) (b := q) (A := 1073741823) (B := 1610612736) (by omega) (by omega) hq2
        have g3 := mulI_bd (a := m.a) (b := q) (A := 1073741823) (B := 1610612736) (by omega) (by omega) hq2
        have g4 := mulI_bd (a := m.b) (b := p) (A := 1073741823) (B := 1610612736) (by omega) (by omega) hp2
        have e1 : IntKind.i64.wrap (m.d * p) = m.d * p := IntWalk.i64_in _ (by omega)
        have e2 : IntKind.i64.wrap (m.c * q) = m.c * q := IntWalk.i64_in _ (by omega)
        have e3 : IntKind.i64.wrap (m.a * q) = m.a * q := IntWalk.i64_in _ (by omega)
        have e4 : IntKind.i64.wrap (m.b * p) = m.b * p := IntWalk.i64_in _ (by omega)
        have e5 : IntKind.i64.wrap (m.d * p - m.c * q) = m.d * p - m.c * q := IntWalk.i64_in _ (by omega)
        have e6 : IntKind.i64.wrap (m.a * q - m.b * p) = m.a * q - m.b * p := IntWalk.i64_in _ (by omega)
        have e7 : IntKind.i64.wrap (px * 65536) = px * 65536 := IntWalk.i64_in _ (by omega)
        have e8 : IntKind.i64.wrap (py * 65536) = py * 65536 := IntWalk.i64_in _ (by omega)
        have e9 : IntKind.i64.wrap (px * 65536 - m.e) = p := by rw [← hp]; exact IntWalk.i64_in _ (by omega)
        have e10 : IntKind.i64.wrap (py * 65536 - m.f) = q := by rw [← hq]; exact IntWalk.i64_in _ (by omega)
        obtain ⟨u, hU⟩ : ∃ U, ratR (m.d * p - m.c * q) D = U := ⟨_, rfl⟩
        obtain ⟨v, hV⟩ : ∃ V, ratR (m.a * q - m.b * p) D = V := ⟨_, rfl⟩
        rw [hU, hV] at HBR
        have HU := Lib.hid fun W => rRatio_any (m.d * p - m.c * q) D u W (by omega) hdb hU
        have HV := Lib.hid fun W => rRatio_any (m.a * q - m.b * p) D v W (by omega) hdb hV
        have HNN := Lib.hid fun W => rTwo_big u v W
        unfold vP at HNN
        clear hU hV g1 g2 g3 g4 hp2 hq2 hp hq hD hm hc1 hc2 hpx hpy
        go_wp2_with fail
        refine (HDm.out _).mono ?_; rintro e w2 ⟨rfl, hb2⟩
        have B2 := btr B1 hb2
        have hA2 := hA1.below hb2
        clear a0 a1 a2 a3 a4 a5 hA1 hb2 B1
        have a0 := hA2.c 0 _ rfl
        have a1 := hA2.c 1 _ rfl
        have a2 := hA2.c 2 _ rfl
        have a3 := hA2.c 3 _ rfl
        have a4 := hA2.c 4 _ rfl
        have a5 := hA2.c 5 _ rfl
        by_cases hD0 : D = 0
        · have HR2 := Lib.hid (show R = (0, 0, 14) by rw [← HR.out]; exact HBZ.out hD0)
          subst hD0
          go_wp2_with fail
          go_ret3
          rw [HR2.out]
          exact ⟨rfl, B2⟩
        · have hD1 : (D == 0) = false := by simp [hD0]
          have HR4 := Lib.hid (show R = nearP u v 1073741823 by rw [← HR.out]; exact HBR.out hD0)
          clear HBR hD0
          go_wp2_with fail
          go_quiet (fail)
          go_wp2_with fail
          have hbq := bdrewN (Below.refl _ w2) nq
          have B3 := btr B2 hbq
          have hA3 := hA2.below hbq
          obtain ⟨w3, hw3⟩ : ∃ w3, w3 = w2.drewN nq := ⟨_, rfl⟩
          rw [← hw3] at B3 hA3 ⊢
          clear a0 a1 a2 a3 a4 a5 hA2 B2 hbq hw3
          have a0 := fun x : Grown w3 => x.cell (hA3.c 0 _ rfl) hA3.lt
          have a1 := fun x : Grown w3 => x.cell (hA3.c 1 _ rfl) hA3.lt
          have a2 := fun x : Grown w3 => x.cell (hA3.c 2 _ rfl) hA3.lt
          have a3 := fun x : Grown w3 => x.cell (hA3.c 3 _ rfl) hA3.lt
          have HNB : Hid (∀ W, Calls Tryz.prog 142 #[.int .i64 u, .int .i64 v, .int .i64 1073741823] W fun e w' => e = .returned (.tuple #[.int .i64 (nearP u v 1073741823).1, .int .i64 (nearP u v 1073741823).2.1, .int .i64 (nearP u v 1073741823).2.2]) ∧ Below W.heap.size W w') :=
            Lib.hid fun W => (HNN.out W).mono fun e w' h => ⟨h.1, h.2 ▸ Below.refl _ _⟩
          refine wp_region_grown (by kernel_rfl) (by kernel_rfl) ?_
          repeat (go_big_quiet_step (first
            | (go_at_call 143; with_reducible exact Calls.grown (HU.out _))
            | (go_at_call 143; with_reducible exact Calls.grown (HV.out _))
            | (go_at_call 142; with_reducible exact Calls.grown (HNB.out _))
            | fail))
          refine wpQuiet_nil ?_
          rintro _ ⟨y, rfl⟩
          obtain ⟨w4, hb4⟩ := y
          simp only
          have B4 := btr B3 hb4
          clear a0 a1 a2 a3 HU HV HNN HNB hb4
          go_wp2_with fail
          go_ret3
          rw [HR4.out]
          exact ⟨rfl, B4⟩
end Go.Proofs.YtdfkbbcoolgfiaaGreat

namespace Go.Proofs.YtdfkbbcoolgfiaaGreat
open Go.RowKit Go.BigFrame

set_option maxRecDepth 100000 in
set_option maxHeartbeats 4000000 in
theorem rHere_any (x : St) (P C D : Value) (R : Int × Int × Int) (w : World) (h : StAt w x P C D) (hf : stFew x) (hR : hereS x = R) : Calls Tryz.prog 51 #[.agg (stC x P C D).toArray] w
    fun r w' => r = .returned (vP R) ∧ Below w.heap.size w w' := by
  obtain ⟨w0, hw0⟩ : ∃ w0 : World, w0 = w.alloc (.cells (stC x P C D).toArray 32) := ⟨_, rfl⟩
  have hB0 : Below w.heap.size w w0 := by rw [hw0]; exact bal (Below.refl _ _) _
  have hA : BC w0 w.heap.size (stC x P C D) := by rw [hw0]; exact BC.new (stC x P C D) 32 rfl
  have h0 := h.below hB0
  have HM := Lib.hid fun W (hb : Below w0.heap.size w0 W) => rStMay_any x P C D W (h0.below hb) hf
  obtain ⟨Ap, cp, rfl, hp, hpc, hpm⟩ := h0.p
  obtain ⟨np, hnp⟩ : ∃ n, n = x.p.length := ⟨_, rfl⟩
  have hfp := hf.1
  rw [← hnp] at hA hw0 hp hfp h h0 HM ⊢
  obtain ⟨⟨px, py, ok⟩, hpt⟩ : ∃ p, ptL x.p = p := ⟨_, rfl⟩
  have HX := Lib.hid fun W (hb : Below w0.heap.size w0 W) => ref_Point_any Ap np cp x.p (px, py, ok) W (by omega) (hp.below hb) hpt
  have HPT := Lib.hid hpt
  have HA := Lib.hid hA
  have HR := Lib.hid hR
  clear hA h0 h hR hp hpt hnp
  go_enter Tryz.func51, Tryz.ntmps51
  go_upto_region 1 with (fail)
  rw [← hw0]
  clear hw0
  go_wp2_with (first
    | (refine wpList_load_rec rfl _ _ rfl w.heap.size rfl _ 24 stateT HA.out rfl ?_)
    | fail)
  refine (HM.out _ (Below.refl _ _)).mono ?_; rintro e w1 ⟨rfl, hb1⟩
  have G1 := hb1
  have B1 := btr hB0 G1
  clear hb1
  cases hm : mayS x
  · have HR2 := Lib.hid (show R = (0, 0, 1) by rw [← HR.out]; unfold hereS; rw [hm]; simp)
    go_wp2_with fail
    go_ret3
    rw [HR2.out]
    exact ⟨rfl, B1⟩
  · have c6 := (HA.out.below G1).c 6 _ rfl
    go_wp2_with fail
    refine (HX.out _ G1).mono ?_; rintro e w2 ⟨rfl, hb2⟩
    have G2 := btr G1 hb2
    have B2 := btr B1 hb2
    clear hb2 c6
    cases ok
    · have HR2 := Lib.hid (show R = (0, 0, 13) by rw [← HR.out]; unfold hereS baseL; rw [hm, HPT.out]; simp)
      go_wp2_with fail
      go_ret3
      rw [HR2.out]
      exact ⟨rfl, B2⟩
    · have HR2 := Lib.hid (show R = backM x.m px py by rw [← HR.out]; unfold hereS baseL; rw [hm, HPT.out]; simp)
      have HK := Lib.hid fun W => rBackM_any x.m px py R W HR2.out.symm
      unfold mtv vP at HK
      have A2 := HA.out.below G2
      have c0 := A2.c 0 _ rfl
      have c1 := A2.c 1 _ rfl
      have c2 := A2.c 2 _ rfl
      have c3 := A2.c 3 _ rfl
      have c4 := A2.c 4 _ rfl
      have c5 := A2.c 5 _ rfl
      clear A2
      go_wp2_with fail
      refine (HK.out _).mono ?_; rintro e w3 ⟨rfl, hb3⟩
      go_wp2_with fail
      go_ret3
      exact ⟨rfl, btr B2 hb3⟩
end Go.Proofs.YtdfkbbcoolgfiaaGreat
