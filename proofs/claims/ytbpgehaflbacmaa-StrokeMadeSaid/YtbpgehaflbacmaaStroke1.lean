/- wide.Cmp at numbers whose products are small; root.Sign; stroke.sign. -/
import Derived.Test.YtbpgehaflbacmaaFlat
import Derived.Test.YtbpgehaflbacmaaMay2
import Derived.Test.YtbpgehaflbacmaaAllP
import Derived.Laws.MathBits
import Derived.Laws.BitsAllLaws
namespace Go.Proofs.Ytbpgehaflbacmaa
open Go.RowKit

theorem absI (v : Int) : (if v < 0 then -v else v) = (v.natAbs : Int) := by split <;> omega
theorem wide_size_any (v : Int) (w : World) (h : -2147483648 ≤ v ∧ v ≤ 2147483648) :
    Calls Try.prog 77 #[.int .i64 v] w fun e w' => e = .returned (.int .u64 (v.natAbs : Int)) ∧ w = w' := by
  obtain ⟨h0, h1⟩ := h
  go_enter Try.func77, Try.ntmps77
  by_cases hv : v < 0
  · go_wp2
    go_ret
    exact ⟨ret_int (by omega), rfl⟩
  · go_wp2
    go_ret
    exact ⟨ret_int (by omega), rfl⟩

theorem mask32 {x : Int} (h0 : 0 ≤ x) (h1 : x < 4294967296) : bits .and .u64 x 4294967295 = x := by
  rw [and_low32 x h0 (by omega)]; omega
theorem u64_wrap {x : Int} (h0 : 0 ≤ x) (h1 : x < 18446744073709551616) : IntKind.u64.wrap x = x := by rw [IntKind.wrap_u64]; exact Int.emod_eq_of_lt h0 h1
theorem or_join {p : Int} (h0 : 0 ≤ p) (h1 : p < 18446744073709551616) : bits .or .u64 (p / 4294967296 * 4294967296) (p % 4294967296) = p := by
  rw [u64_or _ _ (by omega) (by omega) (by omega) (by omega)]
  have x2 : (p / 4294967296 * 4294967296).toNat = (p / 4294967296).toNat * 2 ^ 32 := by omega
  rw [x2, nat_join 32 _ _ (by rw [Nat.mul_mod_left]) (by omega), Int.natCast_add]
  omega
theorem mulN_bd {a b A B : Int} (ha : 0 ≤ a ∧ a ≤ A) (hb : 0 ≤ b ∧ b ≤ B) : 0 ≤ a * b ∧ a * b ≤ A * B :=
  ⟨Int.mul_nonneg ha.1 hb.1, Int.mul_le_mul ha.2 hb.2 hb.1 (by omega)⟩

theorem wide_product_any (a b : Int) (w : World) (ha : 0 ≤ a ∧ a ≤ 2147483648) (hb : 0 ≤ b ∧ b ≤ 2147483648) :
    Calls Try.prog 76 #[.int .u64 a, .int .u64 b] w fun e w' => e = .returned (.tuple #[.int .u64 0, .int .u64 (a * b)]) ∧ Below w.heap.size w w' := by
  have hp := mulN_bd ha hb
  have ma : bits .and .u64 a 4294967295 = a := mask32 ha.1 (by omega)
  have mb : bits .and .u64 b 4294967295 = b := mask32 hb.1 (by omega)
  have da : a / 4294967296 = 0 := by omega
  have db : b / 4294967296 = 0 := by omega
  have hw : IntKind.u64.wrap (a * b) = a * b := u64_wrap hp.1 (by omega)
  have w0 : IntKind.u64.wrap 0 = 0 := rfl
  have a0 : bits .and .u64 0 4294967295 = 0 := rfl
  obtain ⟨p, hpe⟩ : ∃ p, p = a * b := ⟨_, rfl⟩
  rw [← hpe] at hp hw ⊢
  obtain ⟨p0, p1⟩ := hp
  have wd : IntKind.u64.wrap (p / 4294967296) = p / 4294967296 := u64_wrap (by omega) (by omega)
  have dd : p / 4294967296 / 4294967296 = 0 := by omega
  have ws : IntKind.u64.wrap (p / 4294967296 * 4294967296) = p / 4294967296 * 4294967296 := u64_wrap (by omega) (by omega)
  have mp : bits .and .u64 p 4294967295 = p % 4294967296 := and_low32 p p0 (by omega)
  have oj : bits .or .u64 (p / 4294967296 * 4294967296) (p % 4294967296) = p := or_join p0 (by omega)
  go_enter Try.func76, Try.ntmps76
  go_wp2
  go_quiet (fail)
  go_wp2
  go_ret2
  refine ⟨?_, bdrewN (bal (Below.refl _ _) _) _⟩
  show Ending.returned (.tuple #[.int .u64 (a * b / 4294967296 / 4294967296), .int .u64 (bits BinOp.or IntKind.u64 (a * b / 4294967296 * 4294967296) (bits BinOp.and IntKind.u64 (a * b) 4294967295))]) = _
  rw [← hpe, dd, mp, oj]

theorem wide_Mul_any (a b : Int) (w : World) (ha : -2147483648 ≤ a ∧ a ≤ 2147483648) (hb : -2147483648 ≤ b ∧ b ≤ 2147483648) (hs : a < 0 ↔ b < 0) :
    Calls Try.prog 75 #[.int .i64 a, .int .i64 b] w fun e w' => e = .returned (.tuple #[.int .i64 0, .int .u64 ((a.natAbs : Int) * (b.natAbs : Int))]) ∧ Below w.heap.size w w' := by
  have hd : decide (a < 0) = decide (b < 0) := decide_eq_decide.2 hs
  have hne : (decide (a < 0) != decide (b < 0)) = false := by rw [hd]; simp
  obtain ⟨a0, a1⟩ := ha
  obtain ⟨b0, b1⟩ := hb
  have c0 : 0 ≤ (a.natAbs : Int) ∧ (a.natAbs : Int) ≤ 2147483648 := by omega
  have c1 : 0 ≤ (b.natAbs : Int) ∧ (b.natAbs : Int) ≤ 2147483648 := by omega
  have C0 := Lib.hid c0
  have C1 := Lib.hid c1
  clear c0 c1
  go_enter Try.func75, Try.ntmps75
  go_wp2_with fail
  refine (wide_size_any a _ ⟨a0, a1⟩).mono ?_; rintro e w1 ⟨rfl, rfl⟩
  go_wp2_with fail
  refine (wide_size_any b _ ⟨b0, b1⟩).mono ?_; rintro e w1 ⟨rfl, rfl⟩
  go_wp2_with fail
  refine (wide_product_any _ _ _ C0.out C1.out).mono ?_; rintro e w1 ⟨rfl, hb1⟩
  clear hd
  rcases Int.lt_or_le a 0 with h | h
  · have h2 : b < 0 := hs.1 h
    have d1 : decide (a < 0) = true := decide_eq_true h
    have d2 : decide (b < 0) = true := decide_eq_true h2
    clear hs hne
    go_wp2
    go_ret2
    exact ⟨rfl, hb1⟩
  · have h2 : ¬ b < 0 := fun h3 => by have := hs.2 h3; omega
    have d1 : decide (a < 0) = false := decide_eq_false (by omega)
    have d2 : decide (b < 0) = false := decide_eq_false (by omega)
    clear hs hne
    go_wp2
    go_ret2
    exact ⟨rfl, hb1⟩

theorem wide_Cmp_any (p c d : Int) (w : World) (hp : -2147483648 ≤ p ∧ p ≤ 2147483648) (hc : 0 ≤ c ∧ c ≤ 2147483648) (hd : 0 ≤ d ∧ d ≤ 2147483648) :
    Calls Try.prog 74 #[.int .i64 p, .int .i64 p, .int .i64 c, .int .i64 d] w fun e w' => e = .returned (.int .i64 (sgnI (p * p - c * d))) ∧ Below w.heap.size w w' := by
  obtain ⟨r, hr⟩ : ∃ r, r = sgnI (p * p - c * d) := ⟨_, rfl⟩
  rw [← hr]
  have HR := Lib.hid hr
  clear hr
  have e0 : (p.natAbs : Int) * (p.natAbs : Int) = p * p := Int.natAbs_mul_self' p
  have e1 : (c.natAbs : Int) = c := Int.natAbs_of_nonneg hc.1
  have e2 : (d.natAbs : Int) = d := Int.natAbs_of_nonneg hd.1
  go_enter Try.func74, Try.ntmps74
  go_wp2_with fail
  refine (wide_Mul_any p p _ hp hp Iff.rfl).mono ?_; rintro e w1 ⟨rfl, hb1⟩
  go_wp2_with fail
  refine (wide_Mul_any c d _ (by omega) (by omega) (by omega)).mono ?_; rintro e w2 ⟨rfl, hb2⟩
  rw [e1, e2]
  have B2 := btr hb1 hb2
  clear hb1 hb2 e0 e1 e2
  rcases Int.lt_trichotomy (p * p) (c * d) with h | h | h
  · have hr : r = -1 := by rw [HR.out]; rcases sgnI_cases (p * p - c * d) with ⟨h1, h2⟩ | ⟨h1, h2⟩ | ⟨h1, h2⟩ <;> omega
    have HR2 := Lib.hid hr
    clear hr
    go_wp2
    go_ret
    exact ⟨ret_int HR2.out.symm, B2⟩
  · have hr : r = 0 := by rw [HR.out]; rcases sgnI_cases (p * p - c * d) with ⟨h1, h2⟩ | ⟨h1, h2⟩ | ⟨h1, h2⟩ <;> omega
    have HR2 := Lib.hid hr
    have hn : ¬ p * p < c * d := by omega
    have hbq : (p * p == c * d) = true := by simp [h]
    clear hr
    go_wp2
    go_ret
    exact ⟨ret_int HR2.out.symm, B2⟩
  · have hr : r = 1 := by rw [HR.out]; rcases sgnI_cases (p * p - c * d) with ⟨h1, h2⟩ | ⟨h1, h2⟩ | ⟨h1, h2⟩ <;> omega
    have HR2 := Lib.hid hr
    have hn : ¬ p * p < c * d := by omega
    have hbq : (p * p == c * d) = false := by simp; omega
    clear hr
    go_wp2
    go_ret
    exact ⟨ret_int HR2.out.symm, B2⟩

theorem root_sign_any (v : Int) (w : World) : Calls Try.prog 73 #[.int .i64 v] w fun e w' => e = .returned (.int .i64 (sgnI v)) ∧ w = w' := by
  go_enter Try.func73, Try.ntmps73
  go_wp2
  all_goals
    go_ret
    refine ⟨ret_int ?_, rfl⟩
    rcases sgnI_cases v with ⟨h1, h2⟩ | ⟨h1, h2⟩ | ⟨h1, h2⟩ <;> omega

theorem root_may_any (q d : Int) (w : World) (hq : -2048 ≤ q ∧ q ≤ 2048) (hd : 0 ≤ d ∧ d ≤ 1073741824) : Calls Try.prog 72 #[.int .i64 q, .int .i64 d] w fun e w' => e = .returned (.bool true) ∧ w = w' := by
  obtain ⟨q0, q1⟩ := hq
  obtain ⟨d0, d1⟩ := hd
  go_enter Try.func72, Try.ntmps72
  go_wp2
  go_ret
  exact ⟨congrArg (fun b => Ending.returned (.bool b)) (decide_eq_true (by omega)), rfl⟩

theorem ret_si {v r : Int} (h : v = r) : Ending.returned (.tuple #[.int .i64 v, .bool true]) = .returned (.tuple #[.int .i64 r, .bool true]) := by rw [h]
theorem root_Sign_any (p q d : Int) (w : World) (hp : -2147483648 ≤ p ∧ p ≤ 2147483648) (hq : -2048 ≤ q ∧ q ≤ 2048) (hd : 0 ≤ d ∧ d ≤ 1073741824) :
    Calls Try.prog 71 #[.int .i64 p, .int .i64 q, .int .i64 d] w fun e w' => e = .returned (.tuple #[.int .i64 (rsgn p q d), .bool true]) ∧ Below w.heap.size w w' := by
  have hqq : 0 ≤ q * q ∧ q * q ≤ 4194304 := sq_bd hq
  obtain ⟨p0, p1⟩ := hp
  obtain ⟨q0, q1⟩ := hq
  obtain ⟨d0, d1⟩ := hd
  obtain ⟨q2, q3⟩ := hqq
  obtain ⟨A, hA⟩ : ∃ A, A = sgnI p := ⟨_, rfl⟩
  obtain ⟨B, hB⟩ : ∃ B, B = sgnI q := ⟨_, rfl⟩
  obtain ⟨D, hD⟩ : ∃ D, D = sgnI d := ⟨_, rfl⟩
  have hr : rsgn p q d = if A = 0 ∨ A = B * D then B * D else if B * D = 0 then A else A * sgnI (p * p - q * q * d) := by rw [hA, hB, hD]; rfl
  obtain ⟨C, hC⟩ : ∃ C, C = sgnI (p * p - q * q * d) := ⟨_, rfl⟩
  have tri : ∀ v : Int, -1 ≤ sgnI v ∧ sgnI v ≤ 1 := fun v => by rcases sgnI_cases v with ⟨_, h⟩ | ⟨_, h⟩ | ⟨_, h⟩ <;> omega
  have tA := tri p
  have tB := tri q
  have tD := tri d
  have tC := tri (p * p - q * q * d)
  rw [← hA] at tA
  rw [← hB] at tB
  rw [← hD] at tD
  rw [← hC] at tC hr
  have tBD : -1 ≤ B * D ∧ B * D ≤ 1 := by
    have : B = -1 ∨ B = 0 ∨ B = 1 := by omega
    rcases this with rfl | rfl | rfl <;> omega
  obtain ⟨E, hE⟩ : ∃ E, E = B * D := ⟨_, rfl⟩
  rw [← hE] at tBD hr
  have tAC : -1 ≤ A * C ∧ A * C ≤ 1 := by
    have : A = -1 ∨ A = 0 ∨ A = 1 := by omega
    rcases this with h | h | h <;> rw [h] <;> omega
  obtain ⟨F, hF⟩ : ∃ F, F = A * C := ⟨_, rfl⟩
  rw [← hF] at tAC hr
  obtain ⟨tE0, tE1⟩ := tBD
  obtain ⟨tF0, tF1⟩ := tAC
  have HR := Lib.hid hr
  have HA := Lib.hid hA
  have HB := Lib.hid hB
  have HD := Lib.hid hD
  have HC := Lib.hid hC
  have hE2 : B * D = E := hE.symm
  have hF2 : A * C = F := hF.symm
  clear hr hA hB hD hC tri hE hF
  go_enter Try.func71, Try.ntmps71
  go_wp2_with fail
  refine (root_may_any q d _ ⟨q0, q1⟩ ⟨d0, d1⟩).mono ?_; rintro e w1 ⟨rfl, rfl⟩
  go_wp2_with fail
  refine (root_sign_any p _).mono ?_; rintro e w1 ⟨rfl, rfl⟩
  go_wp2_with fail
  refine (root_sign_any q _).mono ?_; rintro e w1 ⟨rfl, rfl⟩
  go_wp2_with fail
  refine (root_sign_any d _).mono ?_; rintro e w1 ⟨rfl, rfl⟩
  rw [← HA.out, ← HB.out, ← HD.out]
  have hpl : decide (p < -4611686018427387904) = false := decide_eq_false (by omega)
  have hph : decide (4611686018427387904 < p) = false := decide_eq_false (by omega)
  by_cases h1 : A = 0
  · have g1 : (A == 0) = true := by simp [h1]
    have hv : rsgn p q d = E := by rw [HR.out, if_pos (Or.inl h1)]
    have HV := Lib.hid hv
    clear hv h1
    go_wp2_with fail
    go_ret2
    exact ⟨ret_si HV.out.symm, Below.refl _ _⟩
  · have g1 : (A == 0) = false := by simp [h1]
    by_cases h2 : A = E
    · have g2 : (A == E) = true := by simp [h2]
      have hv : rsgn p q d = E := by rw [HR.out, if_pos (Or.inr h2)]
      have HV := Lib.hid hv
      clear hv h1 h2
      go_wp2_with fail
      go_ret2
      exact ⟨ret_si HV.out.symm, Below.refl _ _⟩
    · have g2 : (A == E) = false := by simp [h2]
      by_cases h3 : E = 0
      · have g3 : (E == 0) = true := by simp [h3]
        have hv : rsgn p q d = A := by rw [HR.out, if_neg (by omega), if_pos h3]
        have HV := Lib.hid hv
        clear hv h1 h2 h3
        go_wp2_with fail
        go_ret2
        exact ⟨ret_si HV.out.symm, Below.refl _ _⟩
      · have g3 : (E == 0) = false := by simp [h3]
        have hv : rsgn p q d = F := by rw [HR.out, if_neg (by omega), if_neg h3]
        have HV := Lib.hid hv
        clear hv h1 h2 h3
        go_wp2_with fail
        refine (wide_Cmp_any p (q * q) d _ ⟨p0, p1⟩ (by omega) (by omega)).mono ?_; rintro e w1 ⟨rfl, hb1⟩; rw [← HC.out]
        go_wp2_with fail
        go_ret2
        exact ⟨ret_si HV.out.symm, hb1⟩

theorem stroke_sign_any (p q d : Int) (w : World) (hp : -2147483648 ≤ p ∧ p ≤ 2147483648) (hq : -2048 ≤ q ∧ q ≤ 2048) (hd : 0 ≤ d ∧ d ≤ 1073741824) :
    Calls Try.prog 70 #[.int .i64 p, .int .i64 q, .int .i64 d] w fun e w' => e = .returned (.int .i64 (rsgn p q d)) ∧ Below w.heap.size w w' := by
  go_enter Try.func70, Try.ntmps70
  go_wp2_with fail
  refine (root_Sign_any p q d _ hp hq hd).mono ?_; rintro e w1 ⟨rfl, hb1⟩
  go_wp2_with fail
  go_ret
  exact ⟨rfl, hb1⟩
end Go.Proofs.Ytbpgehaflbacmaa
