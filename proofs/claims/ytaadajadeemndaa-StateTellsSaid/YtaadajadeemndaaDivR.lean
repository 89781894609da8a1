/- The reference's a 65536 / d: Abs, Times, divide, sign, MulDiv, ratio. -/
import Derived.Test.YtaadajadeemndaaMatR
import Derived.Test.YtaadajadeemndaaMWide
namespace Go.Proofs.Ytaadajadeemndaa
open Go.RowKit Go.BigFrame

theorem rAbs_any (v : Int) (w : World) (h : -9223372036854775807 ≤ v ∧ v ≤ 9223372036854775807) :
    Calls Try.prog 128 #[.int .i64 v] w fun e w' => e = .returned (.int .u64 (v.natAbs : Int)) ∧ w = w' := by
  obtain ⟨h0, h1⟩ := h
  go_enter Try.func128, Try.ntmps128
  by_cases hv : v < 0
  · go_wp2
    go_ret
    exact ⟨ret_int (by omega), rfl⟩
  · go_wp2
    go_ret
    exact ⟨ret_int (by omega), rfl⟩
def sgn3 (v : Int) : Int := if v < 0 then -1 else if 0 < v then 1 else 0
theorem rSign_any (v : Int) (w : World) : Calls Try.prog 129 #[.int .i64 v] w fun e w' => e = .returned (.int .i64 (sgn3 v)) ∧ w = w' := by
  obtain ⟨R, hR⟩ : ∃ R, sgn3 v = R := ⟨_, rfl⟩
  rw [hR]
  have HR := Lib.hid hR
  clear hR
  by_cases h1 : v < 0
  · have HR2 : Hid (R = -1) := Lib.hid (by rw [← HR.out]; unfold sgn3; rw [if_pos h1])
    go_enter Try.func129, Try.ntmps129
    go_wp2
    go_ret
    exact ⟨ret_int HR2.out.symm, rfl⟩
  · by_cases h2 : 0 < v
    · have HR2 : Hid (R = 1) := Lib.hid (by rw [← HR.out]; unfold sgn3; rw [if_neg h1, if_pos h2])
      go_enter Try.func129, Try.ntmps129
      go_wp2
      go_ret
      exact ⟨ret_int HR2.out.symm, rfl⟩
    · have HR2 : Hid (R = 0) := Lib.hid (by rw [← HR.out]; unfold sgn3; rw [if_neg h1, if_neg h2])
      go_enter Try.func129, Try.ntmps129
      go_wp2
      go_ret
      exact ⟨ret_int HR2.out.symm, rfl⟩
set_option maxRecDepth 100000 in
set_option maxHeartbeats 1000000 in
theorem rTimes_any (a : Int) (w : World) (ha : 0 ≤ a ∧ a ≤ 9223372036854775807) :
    Calls Try.prog 127 #[.int .u64 a, .int .u64 65536] w fun e w' => e = .returned (.agg #[.int .u64 (a * 65536 / 18446744073709551616), .int .u64 (a * 65536 % 18446744073709551616)]) ∧ Below w.heap.size w w' := by
  obtain ⟨a0, a1⟩ := ha
  obtain ⟨hi, hhi⟩ : ∃ z, z = a * 65536 / 18446744073709551616 := ⟨_, rfl⟩
  obtain ⟨lo, hlo⟩ : ∃ z, z = a * 65536 % 18446744073709551616 := ⟨_, rfl⟩
  rw [← hhi, ← hlo]
  have e1 : bits .and .u64 a 4294967295 = a % 4294967296 := and_low32 a a0 (by omega)
  have e2 : bits .and .u64 65536 4294967295 = 65536 := rfl
  have e3 : IntKind.u64.wrap (a % 4294967296 * 65536) = a % 4294967296 * 65536 := u64_in (by omega) (by omega)
  have e4 : IntKind.u64.wrap (a / 4294967296 * 65536) = a / 4294967296 * 65536 := u64_in (by omega) (by omega)
  have e8 : IntKind.u64.wrap 0 = 0 := rfl
  obtain ⟨m, hm⟩ : ∃ m, m = a / 4294967296 * 65536 + a % 4294967296 * 65536 / 4294967296 := ⟨_, rfl⟩
  have e9 : IntKind.u64.wrap (a / 4294967296 * 65536 + a % 4294967296 * 65536 / 4294967296) = m := by rw [hm]; exact u64_in (by omega) (by omega)
  have hm0 : 0 ≤ m ∧ m < 281474976710656 := by omega
  have e10 : bits .and .u64 m 4294967295 = m % 4294967296 := and_low32 m (by omega) (by omega)
  have e11 : bits .and .u64 (a % 4294967296 * 65536) 4294967295 = a % 4294967296 * 65536 % 4294967296 := and_low32 _ (by omega) (by omega)
  have e12 : IntKind.u64.wrap (m % 4294967296) = m % 4294967296 := u64_in (by omega) (by omega)
  have e13 : m % 4294967296 / 4294967296 = 0 := by omega
  have e14 : IntKind.u64.wrap (m / 4294967296) = hi := by rw [u64_in (by omega) (by omega), hhi, hm]; omega
  have e17 : IntKind.u64.wrap hi = hi := u64_in (by omega) (by omega)
  have e15 : IntKind.u64.wrap (m % 4294967296 * 4294967296) = m % 4294967296 * 4294967296 := u64_in (by omega) (by omega)
  have e16 : bits .or .u64 (m % 4294967296 * 4294967296) (a % 4294967296 * 65536 % 4294967296) = lo := by
    rw [or_add32 (by omega) (by omega) (by omega) (by omega), hlo, hm]; omega
  clear hm hhi hlo
  go_enter Try.func127, Try.ntmps127
  go_wp2
  exact bodyPost_ret (v := .agg #[.int .u64 hi, .int .u64 lo]) (by simp [results, Try.results127, go_sem, *]) rfl ⟨rfl, bal (Below.refl _ _) _⟩
theorem and63 (j : Nat) (hj : j < 128) : bits .and .i64 (j : Int) 63 = ((j % 64 : Nat) : Int) := by
  show IntKind.i64.wrap ((BitVec.ofInt 64 (j : Int) &&& BitVec.ofInt 64 63).toNat : Int) = _
  have h1 : (BitVec.ofInt 64 (63 : Int)).toNat = 2 ^ 6 - 1 := rfl
  have h2 : (BitVec.ofInt 64 (j : Int)).toNat = j := by rw [BitVec.toNat_ofInt]; omega
  rw [BitVec.toNat_and, h1, h2, Nat.and_two_pow_sub_one_eq_mod]
  exact IntWalk.i64_in _ (by omega)
/-- A number of two words by one; none beyond 2^62. -/
def divR (n dd : Nat) : Int × Int × Bool := if n / dd < 4611686018427387904 then (((n / dd : Nat) : Int), ((n % dd : Nat) : Int), true) else (0, 0, false)
set_option maxRecDepth 100000 in
set_option maxHeartbeats 4000000 in
theorem rDivide_any (n dd : Nat) (R : Int × Int × Bool) (w : World) (hn : n < 340282366920938463463374607431768211456) (hd : 1 ≤ dd ∧ dd ≤ 4611686018427387904) (hR : divR n dd = R) :
    Calls Try.prog 126 #[.agg #[.int .u64 ((n / 18446744073709551616 : Nat) : Int), .int .u64 ((n % 18446744073709551616 : Nat) : Int)], .int .u64 (dd : Int)] w
      fun e w' => e = .returned (.tuple #[.int .u64 R.1, .int .u64 R.2.1, .bool R.2.2]) ∧ Below w.heap.size w w' := by
  obtain ⟨lo, hlo⟩ : ∃ lo, n % 18446744073709551616 = lo := ⟨_, rfl⟩
  obtain ⟨hi, hhi⟩ : ∃ hi, n / 18446744073709551616 = hi := ⟨_, rfl⟩
  rw [hlo, hhi]
  have hlo2 : lo < 18446744073709551616 := by omega
  have hhi2 : hi < 18446744073709551616 := by omega
  have HLO := Lib.hid hlo
  have HHI := Lib.hid hhi
  have HR := Lib.hid hR
  have HN := Lib.hid hn
  obtain ⟨w0, hw0⟩ : ∃ w0 : World, w0 = w.alloc (.cells #[.int .u64 (hi : Int), .int .u64 (lo : Int)] 152) := ⟨_, rfl⟩
  have hB0 : Below w.heap.size w w0 := by rw [hw0]; exact bal (Below.refl _ _) _
  have hA : BC w0 w.heap.size [.int .u64 (hi : Int), .int .u64 (lo : Int)] := by rw [hw0]; exact BC.new [.int .u64 (hi : Int), .int .u64 (lo : Int)] 152 rfl
  have c0 := hA.c 0 _ rfl
  have c1 := hA.c 1 _ rfl
  clear hR hlo hhi hn hA
  go_enter Try.func126, Try.ntmps126
  go_upto_region 1 with (fail)
  rw [← hw0]
  clear hw0
  go_wp2_with fail
  go_loopw [7, 8, 9] (fun s7 s8 s9 wr => ∃ (k r Q : Nat), k ≤ 128 ∧ s9 = .int .i64 ((k : Int) - 1) ∧ s8 = .int .u64 (r : Int) ∧ s7 = .int .u64 (Q : Int) ∧ w0 = wr ∧ r < dd ∧ Q < 4611686018427387904 ∧ Hid (n / 2 ^ k % dd = r ∧ n / 2 ^ k / dd = Q)) (fun _ _ s9 _ => (intOf s9 + 1).toNat)
  case atStart =>
    refine ⟨128, 0, 0, by omega, rfl, rfl, rfl, rfl, by omega, by omega, Lib.hid ?_⟩
    have e64 : (2 : Nat) ^ 128 = 340282366920938463463374607431768211456 := by decide
    rw [e64, Nat.div_eq_of_lt HN.out, Nat.zero_mod, Nat.zero_div]
    exact ⟨rfl, rfl⟩
  case round =>
    obtain ⟨k, r, Q, hk, rfl, rfl, rfl, rfl, hrD, hQ1, hI⟩ := hrel
    rcases Nat.eq_zero_or_pos k with rfl | hk0
    · have HF : Hid (R = ((Q : Int), (r : Int), true)) := Lib.hid (by
        obtain ⟨i1, i2⟩ := hI.out
        rw [Nat.pow_zero, Nat.div_one] at i1 i2
        rw [← HR.out]
        unfold divR
        rw [i2, if_pos hQ1, i1])
      go_wp2_with fail
      go_ret3
      rw [HF.out]
      exact ⟨rfl, hB0⟩
    · obtain ⟨j, rfl⟩ : ∃ j, k = j + 1 := ⟨k - 1, by omega⟩
      have ej : ((j + 1 : Nat) : Int) - 1 = j := by omega
      rw [ej]
      obtain ⟨b, hb⟩ : ∃ b, n / 2 ^ j % 2 = b := ⟨_, rfl⟩
      have hb1' : b ≤ 1 := by omega
      obtain ⟨m, hm⟩ : ∃ m, j % 64 = m := ⟨_, rfl⟩
      have hm64 : m < 64 := by omega
      obtain ⟨P, hP⟩ : ∃ P, 2 ^ m = P := ⟨_, rfl⟩
      have hP0 : 0 < P := by rw [← hP]; exact Nat.two_pow_pos m
      have x1 : (2 : Int) ^ m = (P : Int) := by rw [← hP]; simp
      have a63 : bits .and .i64 (j : Int) 63 = (m : Int) := by rw [and63 j (by omega), hm]
      have u63 : IntKind.u64.wrap (m : Int) = (m : Int) := u64_in (by omega) (by omega)
      have hbit : ∀ z : Nat, z < 18446744073709551616 → bits .and .u64 ((z : Int) / (P : Int)) 1 = ((z / P % 2 : Nat) : Int) := fun z hz => by
        have h4 : (z : Int) / (P : Int) = ((z / P : Nat) : Int) := (Int.natCast_ediv z P).symm
        have h5 : z / P ≤ z := Nat.div_le_self _ _
        rw [h4]
        obtain ⟨y, hy⟩ : ∃ y, z / P = y := ⟨_, rfl⟩
        rw [hy] at h5 ⊢
        rw [and_one_u64 _ (by omega) (by omega)]
        omega
      have x2 := hbit lo hlo2
      have x22 := hbit hi hhi2
      have x3 : bits .or .u64 ((r : Int) * 2) (b : Int) = ((2 * r + b : Nat) : Int) := or_low (by omega) hb1'
      obtain ⟨i1, i2⟩ := hI.out
      obtain ⟨s1, s2⟩ := div_step (b := b) (show 0 < dd by omega) i2 i1 hb1'
      have hM := half_of n j
      rw [hb] at hM
      rw [← hM] at s1 s2
      have hle : Q * 2 ^ (j + 1) ≤ n / dd := by rw [← i2]; exact quo_le n dd (j + 1)
      have S1 := Lib.hid s1
      have S2 := Lib.hid s2
      have HLE := Lib.hid hle
      have hblo : j < 64 → lo / P % 2 = b := fun hj => by
        have hmj : m = j := by omega
        have h3 := bit_of n j hj
        rw [HLO.out, hb] at h3
        rw [← hP, hmj]; exact h3
      have hbhi : 64 ≤ j → hi / P % 2 = b := fun hj => by
        have hmj : j = 64 + m := by omega
        have e64 : (18446744073709551616 : Nat) = 2 ^ 64 := by decide
        rw [← hb, ← HHI.out, e64, Nat.div_div_eq_div_mul, ← hP, ← Nat.pow_add, hmj]
      have HBL := Lib.hid hblo
      have HBH := Lib.hid hbhi
      obtain ⟨zl, hzl⟩ : ∃ z, lo / P % 2 = z := ⟨_, rfl⟩
      obtain ⟨zh, hzh⟩ : ∃ z, hi / P % 2 = z := ⟨_, rfl⟩
      rw [hzl] at x2 HBL
      rw [hzh] at x22 HBH
      have HM := Lib.hid hm
      have x7 : (r : Int) / 9223372036854775808 = 0 := by omega
      clear hI i1 i2 hM hle s1 s2 hb hP hblo hbhi hzl hzh hm hbit
      have hbig : 2305843009213693952 ≤ Q → R = (0, 0, false) := fun hq => by
        rw [← HR.out]
        unfold divR
        rw [if_neg]
        have h1 := HLE.out
        have h2 : 2 ≤ 2 ^ (j + 1) := by
          have := Nat.pow_le_pow_right (show 0 < 2 by omega) (show 1 ≤ j + 1 by omega)
          simpa using this
        have h3 := Nat.mul_le_mul hq h2
        omega
      have HBIG := Lib.hid hbig
      have x9 : bits .or .u64 ((Q : Int) * 2) 1 = ((2 * Q + 1 : Nat) : Int) := or_low (by omega) (Nat.le_refl 1)
      have x10 : bits .or .u64 ((Q : Int) * 2) 0 = ((2 * Q : Nat) : Int) := or_low (r := Q) (b := 0) (by omega) (by omega)
      clear hbig
      by_cases hj : j < 64
      · rw [HBL.out hj] at x2
        clear x22
        by_cases hge : dd ≤ 2 * r + b
        · have x6 : IntKind.u64.wrap (((2 * r + b : Nat) : Int) - (dd : Int)) = ((2 * r + b - dd : Nat) : Int) := by rw [u64_in (by omega) (by omega)]; omega
          by_cases hq : Q < 2305843009213693952
          · have HQ1 := Lib.hid hq
            have qd : decide ((2305843009213693952 : Int) ≤ (Q : Int)) = false := decide_eq_false (by omega)
            have x11 : IntKind.u64.wrap ((Q : Int) * 2) = (Q : Int) * 2 := u64_in (by omega) (by omega)
            clear hq hQ1
            go_wp2_with fail
            go_roundw
            case rel =>
              have hs := S2.out hge
              have hq := HQ1.out
              exact ⟨j, 2 * r + b - dd, 2 * Q + 1, by omega, by congr 1, by congr 1; omega, by congr 1, by trivial, by omega, by omega, Lib.hid ⟨hs.2, hs.1⟩⟩
            case measure => simp [intOf]
          · have HF := Lib.hid (HBIG.out (by omega))
            have qd : decide ((2305843009213693952 : Int) ≤ (Q : Int)) = true := decide_eq_true (by omega)
            clear hq hQ1
            go_wp2_with fail
            try rw [Exit.noGoto_ret]
            go_ret3
            rw [HF.out]
            exact ⟨rfl, hB0⟩
        · by_cases hq : Q < 2305843009213693952
          · have HQ1 := Lib.hid hq
            have qd : decide ((2305843009213693952 : Int) ≤ (Q : Int)) = false := decide_eq_false (by omega)
            have x11 : IntKind.u64.wrap ((Q : Int) * 2) = (Q : Int) * 2 := u64_in (by omega) (by omega)
            clear hq hQ1
            go_wp2_with fail
            go_roundw
            case rel =>
              have hs := S1.out (by omega)
              have hq := HQ1.out
              exact ⟨j, 2 * r + b, 2 * Q, by omega, by congr 1, by congr 1, by congr 1, by trivial, by omega, by omega, Lib.hid ⟨hs.2, hs.1⟩⟩
            case measure => simp [intOf]
          · have HF := Lib.hid (HBIG.out (by omega))
            have qd : decide ((2305843009213693952 : Int) ≤ (Q : Int)) = true := decide_eq_true (by omega)
            clear hq hQ1
            go_wp2_with fail
            try rw [Exit.noGoto_ret]
            go_ret3
            rw [HF.out]
            exact ⟨rfl, hB0⟩
      · rw [HBH.out (by omega)] at x22
        have hjm : (j : Int) - 64 = (m : Int) := by have := HM.out; omega
        have x8 : IntKind.u64.wrap ((j : Int) - 64) = (m : Int) := by rw [hjm]; exact u63
        clear hjm
        by_cases hge : dd ≤ 2 * r + b
        · have x6 : IntKind.u64.wrap (((2 * r + b : Nat) : Int) - (dd : Int)) = ((2 * r + b - dd : Nat) : Int) := by rw [u64_in (by omega) (by omega)]; omega
          by_cases hq : Q < 2305843009213693952
          · have HQ1 := Lib.hid hq
            have qd : decide ((2305843009213693952 : Int) ≤ (Q : Int)) = false := decide_eq_false (by omega)
            have x11 : IntKind.u64.wrap ((Q : Int) * 2) = (Q : Int) * 2 := u64_in (by omega) (by omega)
            clear hq hQ1
            go_wp2_with fail
            go_roundw
            case rel =>
              have hs := S2.out hge
              have hq := HQ1.out
              exact ⟨j, 2 * r + b - dd, 2 * Q + 1, by omega, by congr 1, by congr 1; omega, by congr 1, by trivial, by omega, by omega, Lib.hid ⟨hs.2, hs.1⟩⟩
            case measure => simp [intOf]
          · have HF := Lib.hid (HBIG.out (by omega))
            have qd : decide ((2305843009213693952 : Int) ≤ (Q : Int)) = true := decide_eq_true (by omega)
            clear hq hQ1
            go_wp2_with fail
            try rw [Exit.noGoto_ret]
            go_ret3
            rw [HF.out]
            exact ⟨rfl, hB0⟩
        · by_cases hq : Q < 2305843009213693952
          · have HQ1 := Lib.hid hq
            have qd : decide ((2305843009213693952 : Int) ≤ (Q : Int)) = false := decide_eq_false (by omega)
            have x11 : IntKind.u64.wrap ((Q : Int) * 2) = (Q : Int) * 2 := u64_in (by omega) (by omega)
            clear hq hQ1
            go_wp2_with fail
            go_roundw
            case rel =>
              have hs := S1.out (by omega)
              have hq := HQ1.out
              exact ⟨j, 2 * r + b, 2 * Q, by omega, by congr 1, by congr 1, by congr 1, by trivial, by omega, by omega, Lib.hid ⟨hs.2, hs.1⟩⟩
            case measure => simp [intOf]
          · have HF := Lib.hid (HBIG.out (by omega))
            have qd : decide ((2305843009213693952 : Int) ≤ (Q : Int)) = true := decide_eq_true (by omega)
            clear hq hQ1
            go_wp2_with fail
            try rw [Exit.noGoto_ret]
            go_ret3
            rw [HF.out]
            exact ⟨rfl, hB0⟩
set_option maxRecDepth 100000 in
theorem rMulDiv_no (a : Int) (w : World) : Calls Try.prog 123 #[.int .i64 a, .int .i64 65536, .int .i64 0] w fun e w' => e = .returned (.tuple #[.int .i64 0, .bool false]) ∧ Below w.heap.size w w' := by
  go_enter Try.func123, Try.ntmps123
  go_wp2_with fail
  go_ret2
  exact ⟨rfl, Below.refl _ _⟩
theorem up_wraps {q : Nat} (h : q < 4611686018427387904) : IntKind.u64.wrap ((q : Int) + 1) = (q : Int) + 1 ∧ IntKind.i64.wrap ((q : Int) + 1) = (q : Int) + 1 ∧ wrap64 (-((q : Int) + 1)) = -((q : Int) + 1) ∧ IntKind.i64.wrap (-((q : Int) + 1)) = -((q : Int) + 1) :=
  ⟨u64_in (by omega) (by omega), IntWalk.i64_in _ (by omega), IntWalk.wrap64_in _ (by omega), IntWalk.i64_in _ (by omega)⟩
theorem down_wraps {q : Nat} (h : q < 4611686018427387904) : IntKind.i64.wrap (q : Int) = (q : Int) ∧ wrap64 (-(q : Int)) = -(q : Int) ∧ IntKind.i64.wrap (-(q : Int)) = -(q : Int) :=
  ⟨IntWalk.i64_in _ (by omega), IntWalk.wrap64_in _ (by omega), IntWalk.i64_in _ (by omega)⟩
/-- a 65536 / d, rounded; none beyond 2^62. -/
def rmdv (a d : Int) : Int × Bool :=
  if d = 0 then (0, false) else if a.natAbs * 65536 / d.natAbs < 4611686018427387904 then
    ((if sgn3 a * sgn3 d < 0 then -1 else 1) * ((a.natAbs * 65536 / d.natAbs : Nat) + if upB (a.natAbs * 65536 / d.natAbs) (a.natAbs * 65536 % d.natAbs) d.natAbs then 1 else 0 : Int), true) else (0, false)
theorem sgn3_mul (a : Int) : sgn3 a * 1 = sgn3 a := Int.mul_one _
theorem sgn3_bd (a : Int) : -1 ≤ sgn3 a ∧ sgn3 a ≤ 1 := by unfold sgn3; split; omega; split <;> omega
set_option maxRecDepth 100000 in
set_option maxHeartbeats 4000000 in
theorem rMulDiv_any (a d : Int) (R : Int × Bool) (w : World) (ha : -4611686018427387904 ≤ a ∧ a ≤ 4611686018427387904) (hd : -4611686018427387904 ≤ d ∧ d ≤ 4611686018427387904) (hR : rmdv a d = R) :
    Calls Try.prog 123 #[.int .i64 a, .int .i64 65536, .int .i64 d] w fun e w' => e = .returned (.tuple #[.int .i64 R.1, .bool R.2]) ∧ Below w.heap.size w w' := by
  have HR := Lib.hid hR
  clear hR
  by_cases hd0 : d = 0
  · subst hd0
    have HR2 : R = (0, false) := by rw [← HR.out]; unfold rmdv; simp
    rw [HR2]
    exact rMulDiv_no a w
  · have hd1 : (d == 0) = false := by simp [hd0]
    obtain ⟨n, hn⟩ : ∃ n, a.natAbs * 65536 = n := ⟨_, rfl⟩
    obtain ⟨dd, hdd⟩ : ∃ dd, d.natAbs = dd := ⟨_, rfl⟩
    obtain ⟨x, hx⟩ : ∃ x, a.natAbs = x := ⟨_, rfl⟩
    have hdd2 : 1 ≤ dd ∧ dd ≤ 4611686018427387904 := by omega
    have hx2 : x ≤ 4611686018427387904 := by omega
    have HA := Lib.hid fun W => rAbs_any a W (by omega)
    have HB := Lib.hid fun W => rAbs_any 65536 W (by omega)
    have HB2 : Hid (∀ W, Calls Try.prog 128 #[.int .i64 65536] W fun e w' => e = .returned (.int .u64 65536) ∧ W = w') := HB
    have HD := Lib.hid fun W => rAbs_any d W (by omega)
    have HT := Lib.hid fun W => rTimes_any (x : Int) W (by omega)
    have p1 : (x : Int) * 65536 / 18446744073709551616 = ((n / 18446744073709551616 : Nat) : Int) := by omega
    have p2 : (x : Int) * 65536 % 18446744073709551616 = ((n % 18446744073709551616 : Nat) : Int) := by omega
    rw [p1, p2] at HT
    rw [hx] at HA
    rw [hdd] at HD
    have HSA := Lib.hid fun W => rSign_any a W
    have HSB := Lib.hid fun W => rSign_any 65536 W
    have HSB2 : Hid (∀ W, Calls Try.prog 129 #[.int .i64 65536] W fun e w' => e = .returned (.int .i64 1) ∧ W = w') := HSB
    have HSD := Lib.hid fun W => rSign_any d W
    have hsa := sgn3_bd a
    have hsd := sgn3_bd d
    have HR0 : R = if n / dd < 4611686018427387904 then ((if sgn3 a * sgn3 d < 0 then -1 else 1) * (((n / dd : Nat) : Int) + if upB (n / dd) (n % dd) dd then 1 else 0), true) else (0, false) := by
      rw [← HR.out]; unfold rmdv; rw [if_neg hd0, hn, hdd]
    obtain ⟨sa, hsae⟩ : ∃ s, sgn3 a = s := ⟨_, rfl⟩
    obtain ⟨sd, hsde⟩ : ∃ s, sgn3 d = s := ⟨_, rfl⟩
    rw [hsae] at HSA hsa HR0
    rw [hsde] at HSD hsd HR0
    have s1 : IntKind.i64.wrap (sa * 1) = sa := by rw [Int.mul_one]; exact IntWalk.i64_in _ (by omega)
    have s3 : IntKind.i64.wrap sa = sa := IntWalk.i64_in _ (by omega)
    have s4 := mulI_bd (a := sa) (b := sd) (A := 1) (B := 1) (by omega) (by omega) (by omega)
    have s2 : IntKind.i64.wrap (sa * sd) = sa * sd := IntWalk.i64_in _ (by omega)
    obtain ⟨nh, hnh⟩ : ∃ z, n / 18446744073709551616 = z := ⟨_, rfl⟩
    obtain ⟨nl, hnl⟩ : ∃ z, n % 18446744073709551616 = z := ⟨_, rfl⟩
    have hnb : n < 340282366920938463463374607431768211456 := by omega
    have hrm : n % dd < dd := Nat.mod_lt _ (by omega)
    obtain ⟨q, hq⟩ : ∃ q, n / dd = q := ⟨_, rfl⟩
    obtain ⟨r, hr⟩ : ∃ r, n % dd = r := ⟨_, rfl⟩
    rw [hr] at hrm HR0
    rw [hq] at HR0
    have hdvd : divR n dd = if q < 4611686018427387904 then ((q : Int), (r : Int), true) else (0, 0, false) := by unfold divR; rw [hq, hr]
    have HV := Lib.hid fun E (hE : divR n dd = E) W => rDivide_any n dd E W hnb hdd2 hE
    rw [hnh, hnl] at HT HV
    have HDV := Lib.hid hdvd
    have HR5 := Lib.hid HR0
    clear HB HSB hd0 hn hdd hx p1 p2 ha hd hnh hnl hx2 s4 hsae hsde hnb hq hr hdvd HR HR0
    by_cases hlt : q < 4611686018427387904
    · have HV2 := Lib.hid (HV.out ((q : Int), (r : Int), true) (by rw [HDV.out, if_pos hlt]))
      have HR4 : Hid (R = ((if sa * sd < 0 then -1 else 1) * ((q : Int) + if upB q r dd then 1 else 0), true)) := Lib.hid (by rw [HR5.out, if_pos hlt])
      simp only at HV2
      have x1 : IntKind.u64.wrap ((dd : Int) - (r : Int)) = (dd : Int) - (r : Int) := u64_in (by omega) (by omega)
      have x2 : bits .and .u64 (q : Int) 1 = (q : Int) % 2 := and_one_u64 _ (by omega) (by omega)
      clear HV HDV HR5
      go_enter Try.func123, Try.ntmps123
      go_wp2_with fail
      refine (HA.out _).mono ?_; rintro e w' ⟨rfl, rfl⟩
      go_wp2_with fail
      refine (HB2.out _).mono ?_; rintro e w' ⟨rfl, rfl⟩
      go_wp2_with fail
      refine (HT.out _).mono ?_; rintro e w1 ⟨rfl, B1⟩
      go_wp2_with fail
      refine (HD.out _).mono ?_; rintro e w' ⟨rfl, rfl⟩
      go_wp2_with fail
      refine (HV2.out _).mono ?_; rintro e w2 ⟨rfl, hb2⟩
      have B2 := btr B1 hb2
      clear HA HB2 HT HV2 B1 hb2
      go_wp2_with fail
      refine (HD.out _).mono ?_; rintro e w' ⟨rfl, rfl⟩
      by_cases c1 : dd - r < r
      · have HU : upB q r dd = true := by unfold upB; simp [c1]
        have x3 : decide ((dd : Int) - (r : Int) < (r : Int)) = true := decide_eq_true (by omega)
        have HR3 : Hid (R = ((if sa * sd < 0 then -1 else 1) * ((q : Int) + 1), true)) := Lib.hid (by rw [HR4.out, HU]; rfl)
        obtain ⟨z1, z2, z3, z4⟩ := up_wraps hlt
        clear hlt c1
        try clear c2
        go_wp2_with fail
        refine (HSA.out _).mono ?_; rintro e w' ⟨rfl, rfl⟩
        go_wp2_with fail
        refine (HSB2.out _).mono ?_; rintro e w' ⟨rfl, rfl⟩
        go_wp2_with fail
        refine (HSD.out _).mono ?_; rintro e w' ⟨rfl, rfl⟩
        by_cases hsn : sa * sd < 0
        · have HR2 : Hid (R = (-((q : Int) + 1), true)) := Lib.hid (by rw [HR3.out, if_pos hsn]; simp <;> omega)
          have sdd : decide (sa * sd < 0) = true := decide_eq_true hsn
          clear hsn
          go_wp2_with fail
          go_ret2
          rw [HR2.out]
          exact ⟨rfl, B2⟩
        · have HR2 : Hid (R = (((q : Int) + 1), true)) := Lib.hid (by rw [HR3.out, if_neg hsn]; simp <;> omega)
          have sdd : decide (sa * sd < 0) = false := decide_eq_false hsn
          clear hsn
          go_wp2_with fail
          go_ret2
          rw [HR2.out]
          exact ⟨rfl, B2⟩
      · have x3 : decide ((dd : Int) - (r : Int) < (r : Int)) = false := decide_eq_false (by omega)
        by_cases c2 : r = dd - r
        · have x4 : ((r : Int) == (dd : Int) - (r : Int)) = true := by simp; omega
          by_cases c3 : q % 2 = 1
          · have HU : upB q r dd = true := by unfold upB; simp [c3]; omega
            have x5 : ((q : Int) % 2 == 1) = true := by simp; omega
            have HR3 : Hid (R = ((if sa * sd < 0 then -1 else 1) * ((q : Int) + 1), true)) := Lib.hid (by rw [HR4.out, HU]; rfl)
            obtain ⟨z1, z2, z3, z4⟩ := up_wraps hlt
            clear hlt c1
            try clear c2
            go_wp2_with fail
            refine (HSA.out _).mono ?_; rintro e w' ⟨rfl, rfl⟩
            go_wp2_with fail
            refine (HSB2.out _).mono ?_; rintro e w' ⟨rfl, rfl⟩
            go_wp2_with fail
            refine (HSD.out _).mono ?_; rintro e w' ⟨rfl, rfl⟩
            by_cases hsn : sa * sd < 0
            · have HR2 : Hid (R = (-((q : Int) + 1), true)) := Lib.hid (by rw [HR3.out, if_pos hsn]; simp <;> omega)
              have sdd : decide (sa * sd < 0) = true := decide_eq_true hsn
              clear hsn
              go_wp2_with fail
              go_ret2
              rw [HR2.out]
              exact ⟨rfl, B2⟩
            · have HR2 : Hid (R = (((q : Int) + 1), true)) := Lib.hid (by rw [HR3.out, if_neg hsn]; simp <;> omega)
              have sdd : decide (sa * sd < 0) = false := decide_eq_false hsn
              clear hsn
              go_wp2_with fail
              go_ret2
              rw [HR2.out]
              exact ⟨rfl, B2⟩
          · have HU : upB q r dd = false := by unfold upB; simp [c3]; omega
            have x5 : ((q : Int) % 2 == 1) = false := by simp; omega
            have HR3 : Hid (R = ((if sa * sd < 0 then -1 else 1) * ((q : Int) + 0), true)) := Lib.hid (by rw [HR4.out, HU]; rfl)
            obtain ⟨z2, z3, z4⟩ := down_wraps hlt
            clear hlt c1
            try clear c2
            go_wp2_with fail
            refine (HSA.out _).mono ?_; rintro e w' ⟨rfl, rfl⟩
            go_wp2_with fail
            refine (HSB2.out _).mono ?_; rintro e w' ⟨rfl, rfl⟩
            go_wp2_with fail
            refine (HSD.out _).mono ?_; rintro e w' ⟨rfl, rfl⟩
            by_cases hsn : sa * sd < 0
            · have HR2 : Hid (R = (-((q : Int)), true)) := Lib.hid (by rw [HR3.out, if_pos hsn]; simp <;> omega)
              have sdd : decide (sa * sd < 0) = true := decide_eq_true hsn
              clear hsn
              go_wp2_with fail
              go_ret2
              rw [HR2.out]
              exact ⟨rfl, B2⟩
            · have HR2 : Hid (R = (((q : Int)), true)) := Lib.hid (by rw [HR3.out, if_neg hsn]; simp <;> omega)
              have sdd : decide (sa * sd < 0) = false := decide_eq_false hsn
              clear hsn
              go_wp2_with fail
              go_ret2
              rw [HR2.out]
              exact ⟨rfl, B2⟩
        · have x4 : ((r : Int) == (dd : Int) - (r : Int)) = false := by simp; omega
          have HU : upB q r dd = false := by unfold upB; simp [c2]; omega
          have HR3 : Hid (R = ((if sa * sd < 0 then -1 else 1) * ((q : Int) + 0), true)) := Lib.hid (by rw [HR4.out, HU]; rfl)
          obtain ⟨z2, z3, z4⟩ := down_wraps hlt
          clear hlt c1
          try clear c2
          go_wp2_with fail
          refine (HSA.out _).mono ?_; rintro e w' ⟨rfl, rfl⟩
          go_wp2_with fail
          refine (HSB2.out _).mono ?_; rintro e w' ⟨rfl, rfl⟩
          go_wp2_with fail
          refine (HSD.out _).mono ?_; rintro e w' ⟨rfl, rfl⟩
          by_cases hsn : sa * sd < 0
          · have HR2 : Hid (R = (-((q : Int)), true)) := Lib.hid (by rw [HR3.out, if_pos hsn]; simp <;> omega)
            have sdd : decide (sa * sd < 0) = true := decide_eq_true hsn
            clear hsn
            go_wp2_with fail
            go_ret2
            rw [HR2.out]
            exact ⟨rfl, B2⟩
          · have HR2 : Hid (R = (((q : Int)), true)) := Lib.hid (by rw [HR3.out, if_neg hsn]; simp <;> omega)
            have sdd : decide (sa * sd < 0) = false := decide_eq_false hsn
            clear hsn
            go_wp2_with fail
            go_ret2
            rw [HR2.out]
            exact ⟨rfl, B2⟩
    · have HV2 := Lib.hid (HV.out (0, 0, false) (by rw [HDV.out, if_neg hlt]))
      have HR2 : Hid (R = (0, false)) := Lib.hid (by rw [HR5.out, if_neg hlt])
      simp only at HV2
      clear HV HDV HR5
      go_enter Try.func123, Try.ntmps123
      go_wp2_with fail
      refine (HA.out _).mono ?_; rintro e w' ⟨rfl, rfl⟩
      go_wp2_with fail
      refine (HB2.out _).mono ?_; rintro e w' ⟨rfl, rfl⟩
      go_wp2_with fail
      refine (HT.out _).mono ?_; rintro e w1 ⟨rfl, B1⟩
      go_wp2_with fail
      refine (HD.out _).mono ?_; rintro e w' ⟨rfl, rfl⟩
      go_wp2_with fail
      refine (HV2.out _).mono ?_; rintro e w2 ⟨rfl, hb2⟩
      go_wp2_with fail
      go_ret2
      rw [HR2.out]
      exact ⟨rfl, btr B1 hb2⟩
def ratR (a d : Int) : Int := if (rmdv a d).2 && fixB (rmdv a d).1 then (rmdv a d).1 else 1073741824
set_option maxRecDepth 100000 in
set_option maxHeartbeats 1000000 in
theorem rRatio_any (a d V : Int) (w : World) (ha : -4611686018427387904 ≤ a ∧ a ≤ 4611686018427387904) (hd : -4611686018427387904 ≤ d ∧ d ≤ 4611686018427387904) (hV : ratR a d = V) :
    Calls Try.prog 106 #[.int .i64 a, .int .i64 65536, .int .i64 d] w fun e w' => e = .returned (.int .i64 V) ∧ Below w.heap.size w w' := by
  obtain ⟨⟨v, ok⟩, hr⟩ : ∃ E, rmdv a d = E := ⟨_, rfl⟩
  have HM := Lib.hid fun W => rMulDiv_any a d (v, ok) W ha hd hr
  have HV : Hid (V = if ok && fixB v then v else 1073741824) := Lib.hid (by rw [← hV]; unfold ratR; rw [hr])
  simp only at HM
  clear hr hV ha hd
  go_enter Try.func106, Try.ntmps106
  go_wp2_with fail
  refine (HM.out _).mono ?_; rintro e w1 ⟨rfl, B1⟩
  cases ok
  · have HV2 : Hid (V = 1073741824) := Lib.hid (by rw [HV.out]; simp)
    go_wp2_with fail
    go_ret
    exact ⟨ret_int HV2.out.symm, B1⟩
  · go_wp2_with fail
    refine (rIsFix_any v _).mono ?_; rintro e w' ⟨rfl, rfl⟩
    cases hf : fixB v
    · have HV2 : Hid (V = 1073741824) := Lib.hid (by rw [HV.out, hf]; simp)
      go_wp2_with fail
      go_ret
      exact ⟨ret_int HV2.out.symm, B1⟩
    · have HV2 : Hid (V = v) := Lib.hid (by rw [HV.out, hf]; simp)
      go_wp2_with fail
      go_ret
      exact ⟨ret_int HV2.out.symm, B1⟩
end Go.Proofs.Ytaadajadeemndaa
