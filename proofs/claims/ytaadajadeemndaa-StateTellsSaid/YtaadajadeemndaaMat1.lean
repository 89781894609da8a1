/- mat: fix, May, round. -/
import Derived.Test.YtaadajadeemndaaAllP
import Derived.Test.YtaadajadeemndaaEdge
namespace Go.Proofs.Ytaadajadeemndaa
open Go.RowKit Go.BigFrame

def mtv (m : Mt) : Value := .agg #[.int .i64 m.a, .int .i64 m.b, .int .i64 m.c, .int .i64 m.d, .int .i64 m.e, .int .i64 m.f]
set_option maxRecDepth 100000 in
theorem fix_any (v : Int) (w : World) : Calls Try.prog 108 #[.int .i64 v] w fun e w' => e = .returned (.bool (fixB v)) ∧ w = w' := by
  have hs : fixB v = (decide (v ≥ -1073741823) && decide (v ≤ 1073741823)) := rfl
  rw [hs]
  clear hs
  go_enter Try.func108, Try.ntmps108
  go_wp2
  all_goals
    go_ret
    refine ⟨?_, rfl⟩
    first | (simp_all; done) | (simp_all; omega)
theorem and1M (n : Int) : bits .and .i64 n 1 = n % 2 := by
  show IntKind.i64.wrap ((BitVec.ofInt 64 n &&& BitVec.ofInt 64 1).toNat : Int) = _
  have h1 : (BitVec.ofInt 64 (1 : Int)).toNat = 1 := rfl
  rw [BitVec.toNat_and, h1, Nat.and_one_is_mod, BitVec.toNat_ofInt]
  have h2 : (((n % (2 ^ 64 : Nat)).toNat % 2 : Nat) : Int) = n % 2 := by omega
  rw [h2]
  exact IntWalk.i64_in _ (by omega)
set_option maxRecDepth 100000 in
set_option maxHeartbeats 1000000 in
theorem round16_any (n : Int) (w : World) (hn : -4611686018427387904 ≤ n ∧ n ≤ 4611686018427387904) : Calls Try.prog 81 #[.int .i64 n, .int .u64 16] w fun e w' => e = .returned (.int .i64 (rndM 65536 32768 n)) ∧ w = w' := by
  obtain ⟨q, hq⟩ : ∃ q, n / 65536 = q := ⟨_, rfl⟩
  obtain ⟨R, hR⟩ : ∃ R, rndM 65536 32768 n = R := ⟨_, rfl⟩
  have hR2 : R = if n - q * 65536 > 32768 ∨ (n - q * 65536 = 32768 ∧ q % 2 = 1) then q + 1 else q := by rw [← hR, ← hq]; rfl
  rw [hR]
  have HR := Lib.hid hR2
  clear hR hR2
  go_enter Try.func81, Try.ntmps81
  have ha := and1M q
  go_wp2
  all_goals
    go_ret
    refine ⟨ret_int ?_, rfl⟩
    rw [HR.out]
    clear HR
    split <;> first | rfl | (exfalso; simp_all; done) | (exfalso; simp_all; omega) | (exfalso; omega)
set_option maxRecDepth 100000 in
set_option maxHeartbeats 1000000 in
theorem round32_any (n : Int) (w : World) (hn : -4611686018427387904 ≤ n ∧ n ≤ 4611686018427387904) : Calls Try.prog 81 #[.int .i64 n, .int .u64 32] w fun e w' => e = .returned (.int .i64 (rndM 4294967296 2147483648 n)) ∧ w = w' := by
  obtain ⟨q, hq⟩ : ∃ q, n / 4294967296 = q := ⟨_, rfl⟩
  obtain ⟨R, hR⟩ : ∃ R, rndM 4294967296 2147483648 n = R := ⟨_, rfl⟩
  have hR2 : R = if n - q * 4294967296 > 2147483648 ∨ (n - q * 4294967296 = 2147483648 ∧ q % 2 = 1) then q + 1 else q := by rw [← hR, ← hq]; rfl
  rw [hR]
  have HR := Lib.hid hR2
  clear hR hR2
  go_enter Try.func81, Try.ntmps81
  have ha := and1M q
  go_wp2
  all_goals
    go_ret
    refine ⟨ret_int ?_, rfl⟩
    rw [HR.out]
    clear HR
    split <;> first | rfl | (exfalso; simp_all; done) | (exfalso; simp_all; omega) | (exfalso; omega)
theorem idx6 (a b c d e f : Value) (w : World) : (Instr.index 135 (.agg #[a, b, c, d, e, f]) (.int .i64 0)).run Try.prog w = .ok a w ∧ (Instr.index 135 (.agg #[a, b, c, d, e, f]) (.int .i64 1)).run Try.prog w = .ok b w ∧ (Instr.index 135 (.agg #[a, b, c, d, e, f]) (.int .i64 2)).run Try.prog w = .ok c w ∧
    (Instr.index 135 (.agg #[a, b, c, d, e, f]) (.int .i64 3)).run Try.prog w = .ok d w ∧ (Instr.index 135 (.agg #[a, b, c, d, e, f]) (.int .i64 4)).run Try.prog w = .ok e w ∧ (Instr.index 135 (.agg #[a, b, c, d, e, f]) (.int .i64 5)).run Try.prog w = .ok f w :=
  ⟨by kernel_rfl, by kernel_rfl, by kernel_rfl, by kernel_rfl, by kernel_rfl, by kernel_rfl⟩
def mtL (m : Mt) : List Int := [m.a, m.b, m.c, m.d, m.e, m.f]
theorem mtB_all (m : Mt) : mtB m = (mtL m).all fixB := by simp [mtB, mtL, Bool.and_assoc]
set_option maxRecDepth 100000 in
set_option maxHeartbeats 1000000 in
theorem matMay_any (m : Mt) (w : World) : Calls Try.prog 69 #[mtv m] w fun e w' => e = .returned (.bool (mtB m)) ∧ Below w.heap.size w w' := by
  have hM0 := Lib.hid (mtB_all m)
  unfold mtv
  obtain ⟨w0, hw0⟩ : ∃ w0 : World, w0 = w.alloc (.cells #[.int .i64 m.a, .int .i64 m.b, .int .i64 m.c, .int .i64 m.d, .int .i64 m.e, .int .i64 m.f] 25) := ⟨_, rfl⟩
  have hB0 : Below w.heap.size w w0 := by rw [hw0]; exact bal (Below.refl _ _) _
  go_enter Try.func69, Try.ntmps69
  go_wp2_with fail
  rw [← hw0]
  clear hw0
  go_loopw [18] (fun s18 wr => ∃ i : Nat, i ≤ 6 ∧ s18 = .int .i64 (i : Int) ∧ wr = w0 ∧ Hid (mtB m = ((mtL m).drop i).all fixB)) (fun s18 _ => 6 - (intOf s18).toNat)
  case atStart => exact ⟨0, by omega, rfl, rfl, by rw [List.drop_zero]; exact hM0⟩
  case round =>
    obtain ⟨i, hi, rfl, rfl, hM⟩ := hrel
    have x6 := fun W => idx6 (.int .i64 m.a) (.int .i64 m.b) (.int .i64 m.c) (.int .i64 m.d) (.int .i64 m.e) (.int .i64 m.f) W
    have x0 := fun W => (x6 W).1
    have x1 := fun W => (x6 W).2.1
    have x2 := fun W => (x6 W).2.2.1
    have x3 := fun W => (x6 W).2.2.2.1
    have x4 := fun W => (x6 W).2.2.2.2.1
    have x5 := fun W => (x6 W).2.2.2.2.2
    clear x6 hM0
    have hc : i = 0 ∨ i = 1 ∨ i = 2 ∨ i = 3 ∨ i = 4 ∨ i = 5 ∨ i = 6 := by omega
    rcases hc with rfl | rfl | rfl | rfl | rfl | rfl | rfl
    · go_wp2_with fail
      refine (fix_any m.a _).mono ?_; rintro e w' ⟨rfl, rfl⟩
      cases hf : fixB m.a
      · have HR := Lib.hid (show mtB m = false by rw [hM.out]; simp [mtL, hf])
        go_wp2_with fail
        try rw [Exit.noGoto_ret]
        go_ret
        exact ⟨ret_bool HR.out.symm, hB0⟩
      · have HR := Lib.hid (show mtB m = ((mtL m).drop (0 + 1)).all fixB by rw [hM.out]; simp [mtL, hf])
        go_wp2_with fail
        go_roundw
        case rel => exact ⟨0 + 1, by omega, by go_num, by simp, HR⟩
        case measure => simp [intOf]
    · go_wp2_with fail
      refine (fix_any m.b _).mono ?_; rintro e w' ⟨rfl, rfl⟩
      cases hf : fixB m.b
      · have HR := Lib.hid (show mtB m = false by rw [hM.out]; simp [mtL, hf])
        go_wp2_with fail
        try rw [Exit.noGoto_ret]
        go_ret
        exact ⟨ret_bool HR.out.symm, hB0⟩
      · have HR := Lib.hid (show mtB m = ((mtL m).drop (1 + 1)).all fixB by rw [hM.out]; simp [mtL, hf])
        go_wp2_with fail
        go_roundw
        case rel => exact ⟨1 + 1, by omega, by go_num, by simp, HR⟩
        case measure => simp [intOf]
    · go_wp2_with fail
      refine (fix_any m.c _).mono ?_; rintro e w' ⟨rfl, rfl⟩
      cases hf : fixB m.c
      · have HR := Lib.hid (show mtB m = false by rw [hM.out]; simp [mtL, hf])
        go_wp2_with fail
        try rw [Exit.noGoto_ret]
        go_ret
        exact ⟨ret_bool HR.out.symm, hB0⟩
      · have HR := Lib.hid (show mtB m = ((mtL m).drop (2 + 1)).all fixB by rw [hM.out]; simp [mtL, hf])
        go_wp2_with fail
        go_roundw
        case rel => exact ⟨2 + 1, by omega, by go_num, by simp, HR⟩
        case measure => simp [intOf]
    · go_wp2_with fail
      refine (fix_any m.d _).mono ?_; rintro e w' ⟨rfl, rfl⟩
      cases hf : fixB m.d
      · have HR := Lib.hid (show mtB m = false by rw [hM.out]; simp [mtL, hf])
        go_wp2_with fail
        try rw [Exit.noGoto_ret]
        go_ret
        exact ⟨ret_bool HR.out.symm, hB0⟩
      · have HR := Lib.hid (show mtB m = ((mtL m).drop (3 + 1)).all fixB by rw [hM.out]; simp [mtL, hf])
        go_wp2_with fail
        go_roundw
        case rel => exact ⟨3 + 1, by omega, by go_num, by simp, HR⟩
        case measure => simp [intOf]
    · go_wp2_with fail
      refine (fix_any m.e _).mono ?_; rintro e w' ⟨rfl, rfl⟩
      cases hf : fixB m.e
      · have HR := Lib.hid (show mtB m = false by rw [hM.out]; simp [mtL, hf])
        go_wp2_with fail
        try rw [Exit.noGoto_ret]
        go_ret
        exact ⟨ret_bool HR.out.symm, hB0⟩
      · have HR := Lib.hid (show mtB m = ((mtL m).drop (4 + 1)).all fixB by rw [hM.out]; simp [mtL, hf])
        go_wp2_with fail
        go_roundw
        case rel => exact ⟨4 + 1, by omega, by go_num, by simp, HR⟩
        case measure => simp [intOf]
    · go_wp2_with fail
      refine (fix_any m.f _).mono ?_; rintro e w' ⟨rfl, rfl⟩
      cases hf : fixB m.f
      · have HR := Lib.hid (show mtB m = false by rw [hM.out]; simp [mtL, hf])
        go_wp2_with fail
        try rw [Exit.noGoto_ret]
        go_ret
        exact ⟨ret_bool HR.out.symm, hB0⟩
      · have HR := Lib.hid (show mtB m = ((mtL m).drop (5 + 1)).all fixB by rw [hM.out]; simp [mtL, hf])
        go_wp2_with fail
        go_roundw
        case rel => exact ⟨5 + 1, by omega, by go_num, by simp, HR⟩
        case measure => simp [intOf]
    · have HR := Lib.hid (show mtB m = true by rw [hM.out]; rfl)
      go_wp2_with fail
      go_ret
      exact ⟨ret_bool HR.out.symm, hB0⟩
end Go.Proofs.Ytaadajadeemndaa
