/- wide.MulDiv: the walk. -/
import Derived.Test.YtaadajadeemndaaWide2
namespace Go.Proofs.Ytaadajadeemndaa
open Go.RowKit Go.BigFrame

set_option maxRecDepth 100000 in
set_option maxHeartbeats 4000000 in
theorem wparts_no (a d : Int) (n dd : Nat) (w : World) (ha : -4611686018427387904 ≤ a ∧ a ≤ 4611686018427387904) (hd : -4611686018427387904 ≤ d ∧ d ≤ 4611686018427387904) (hN : a.natAbs * 65536 = n) (hD : d.natAbs = dd) (hlt : dd ≤ n / 18446744073709551616) :
    Calls Try.prog 116 #[.int .i64 a, .int .i64 65536, .int .i64 d] w fun e w' => e = .returned (.tuple #[.int .u64 0, .int .u64 0, .int .u64 0, .bool false]) ∧ Below w.heap.size w w' := by
  have HA := Lib.hid fun W => wsize_any a W (by omega)
  have HB := Lib.hid fun W => wsize_any 65536 W (by omega)
  have HD := Lib.hid fun W => wsize_any d W (by omega)
  obtain ⟨x, hx⟩ : ∃ x, a.natAbs = x := ⟨_, rfl⟩
  have HP := Lib.hid fun W => wproduct_any x W (by omega)
  rw [hx] at HA hN
  rw [hD] at HD
  have p1 : (x : Int) * 65536 / 18446744073709551616 = ((n / 18446744073709551616 : Nat) : Int) := by omega
  have p2 : (x : Int) * 65536 % 18446744073709551616 = ((n % 18446744073709551616 : Nat) : Int) := by omega
  rw [p1, p2] at HP
  have HB2 : Hid (∀ W, Calls Try.prog 125 #[.int .i64 65536] W fun e w' => e = .returned (.int .u64 65536) ∧ W = w') := HB
  obtain ⟨lo, hlo⟩ : ∃ lo, n % 18446744073709551616 = lo := ⟨_, rfl⟩
  obtain ⟨hi, hhi⟩ : ∃ hi, n / 18446744073709551616 = hi := ⟨_, rfl⟩
  rw [hlo, hhi] at HP
  rw [hhi] at hlt
  clear hx hN hD ha hd HB hlo hhi p1 p2
  go_enter Try.func116, Try.ntmps116
  go_wp2_with fail
  refine (HA.out _).mono ?_; rintro e w1 ⟨rfl, rfl⟩
  go_wp2_with fail
  refine (HB2.out _).mono ?_; rintro e w1 ⟨rfl, rfl⟩
  go_wp2_with fail
  refine (HP.out _).mono ?_; rintro e w1 ⟨rfl, hb1⟩
  go_wp2_with fail
  refine (HD.out _).mono ?_; rintro e w2 ⟨rfl, rfl⟩
  go_wp2_with fail
  refine bodyPost_ret (v := .tuple #[.int .u64 0, .int .u64 0, .int .u64 0, .bool false]) (by simp [results, Try.results116, go_sem]) rfl ?_
  exact ⟨rfl, hb1⟩
set_option maxRecDepth 100000 in
set_option maxHeartbeats 4000000 in
theorem mulDiv_any (a d : Int) (R : Int × Bool) (w : World) (ha : -4611686018427387904 ≤ a ∧ a ≤ 4611686018427387904) (hd : -4611686018427387904 ≤ d ∧ d ≤ 4611686018427387904) (hR : mdv a d = R) :
    Calls Try.prog 93 #[.int .i64 a, .int .i64 65536, .int .i64 d] w fun e w' => e = .returned (.tuple #[.int .i64 R.1, .bool R.2]) ∧ Below w.heap.size w w' := by
  have HR := Lib.hid hR
  clear hR
  by_cases hno : d = 0 ∨ d.natAbs ≤ a.natAbs * 65536 / 18446744073709551616
  · have HR2 : Hid (R = (0, false)) := Lib.hid (by rw [← HR.out]; unfold mdv; rw [if_pos hno])
    have hno2 : d.natAbs ≤ a.natAbs * 65536 / 18446744073709551616 := by rcases hno with rfl | h; exact Nat.zero_le _; exact h
    have HP := Lib.hid fun W => wparts_no a d _ _ W ha hd rfl rfl hno2
    clear HR hno hno2
    go_enter Try.func93, Try.ntmps93
    go_wp2_with fail
    refine (HP.out _).mono ?_; rintro e w1 ⟨rfl, hb1⟩
    go_wp2_with fail
    go_ret2
    rw [HR2.out]
    exact ⟨rfl, hb1⟩
  · have hd0 : d ≠ 0 := fun h => hno (.inl h)
    have hlt : a.natAbs * 65536 / 18446744073709551616 < d.natAbs := by omega
    have HP := Lib.hid fun W => wparts_any a d _ _ W ha hd hd0 rfl rfl hlt
    have hq : a.natAbs * 65536 / d.natAbs < 18446744073709551616 := by
      rw [Nat.div_lt_iff_lt_mul (by omega)]
      have h := Nat.div_add_mod (a.natAbs * 65536) 18446744073709551616
      have h3 := Nat.mul_le_mul_left 18446744073709551616 (show a.natAbs * 65536 / 18446744073709551616 + 1 ≤ d.natAbs from hlt)
      omega
    have hr := Nat.mod_lt (a.natAbs * 65536) (show d.natAbs > 0 by omega)
    obtain ⟨bs, hbs⟩ : ∃ b, (decide (a < 0) != decide (d < 0)) = b := ⟨_, rfl⟩
    obtain ⟨q, hNq⟩ : ∃ q, a.natAbs * 65536 / d.natAbs = q := ⟨_, rfl⟩
    obtain ⟨r, hNr⟩ : ∃ r, a.natAbs * 65536 % d.natAbs = r := ⟨_, rfl⟩
    obtain ⟨dd, hdd⟩ : ∃ dd, d.natAbs = dd := ⟨_, rfl⟩
    rw [hNq, hNr, hdd] at HP
    rw [hNq] at hq
    rw [hNr, hdd] at hr
    rw [hdd] at hNq hNr hno
    have hdd2 : dd ≤ 4611686018427387904 := by omega
    have HS := Lib.hid hbs
    have HDD := Lib.hid hdd
    have x1 : IntKind.u64.wrap ((dd : Int) - (r : Int)) = (dd : Int) - (r : Int) := u64_in (by omega) (by omega)
    have x2 : bits .and .u64 (q : Int) 1 = (q : Int) % 2 := and_one_u64 _ (by omega) (by omega)
    have x3 : decide ((r : Int) > (dd : Int) - (r : Int)) = decide (dd - r < r) := decide_eq_decide.2 (by omega)
    clear hd0 hlt hdd hd ha
    by_cases c1 : dd - r < r
    · have hU : upB q r dd = true := by unfold upB; simp [c1]
      by_cases hmx : q + 1 = 18446744073709551616
      · have HR2 : Hid (R = (0, false)) := Lib.hid (by rw [← HR.out]; unfold mdv; rw [HDD.out, if_neg hno, hNq, hNr, hU, hbs]; simp [hmx])
        have HMX := Lib.hid hmx
        clear HR hU hno hNq hNr hbs hmx
        go_enter Try.func93, Try.ntmps93
        go_wp2_with fail
        refine (HP.out _).mono ?_; rintro e w1 ⟨rfl, hb1⟩
        go_wp2_with fail
        refine (wmore_any q true _ hq).mono ?_; rintro e w2 ⟨rfl, rfl⟩
        rw [decide_eq_true HMX.out]
        simp only [if_pos HMX.out, if_true, Bool.not_true, Bool.false_or]
        go_wp2_with fail
        go_ret2
        rw [HR2.out]
        exact ⟨rfl, hb1⟩
      · have HR2 : Hid (R = sgnQ (q + 1) bs) := Lib.hid (by rw [← HR.out]; unfold mdv; rw [HDD.out, if_neg hno, hNq, hNr, hU, hbs]; simp [hmx])
        have HMX := Lib.hid hmx
        have hq1 : q + 1 < 18446744073709551616 := by omega
        have eq1 : (q : Int) + 1 = ((q + 1 : Nat) : Int) := by omega
        have EQ1 := Lib.hid eq1
        clear HR hU hno hNq hNr hbs hmx eq1
        go_enter Try.func93, Try.ntmps93
        go_wp2_with fail
        refine (HP.out _).mono ?_; rintro e w1 ⟨rfl, hb1⟩
        go_wp2_with fail
        refine (wmore_any q true _ hq).mono ?_; rintro e w2 ⟨rfl, rfl⟩
        rw [decide_eq_false HMX.out]
        simp only [if_neg HMX.out, if_true, Bool.not_true, Bool.false_or, Bool.not_false]
        rw [EQ1.out]
        obtain ⟨q1, hq1e⟩ : ∃ q1, q1 = q + 1 := ⟨_, rfl⟩
        rw [← hq1e] at HR2 hq1 ⊢
        clear hq1e EQ1
        go_wp2_with fail
        refine (wunder_any a d _).mono ?_; rintro e w3 ⟨rfl, rfl⟩
        rw [HS.out]
        go_wp2_with fail
        refine (wsigned_any (q1) bs _ (hq1)).mono ?_; rintro e w4 ⟨rfl, rfl⟩
        go_wp2_with fail
        go_ret2
        rw [HR2.out]
        exact ⟨rfl, hb1⟩
    · by_cases c2 : r = dd - r
      · have y1 : ((r : Int) == (dd : Int) - (r : Int)) = true := by simp; omega
        have y3 : decide ((r : Int) = (dd : Int) - (r : Int)) = true := decide_eq_true (by omega)
        have C2 := Lib.hid c2
        clear c2
        rcases Nat.mod_two_eq_zero_or_one q with h2 | h2
        · have hU : upB q r dd = false := by unfold upB; simp [c1, h2]
          have y2 : (q : Int) % 2 = 0 := by omega
          have HR2 : Hid (R = sgnQ q bs) := Lib.hid (by rw [← HR.out]; unfold mdv; rw [HDD.out, if_neg hno, hNq, hNr, hU, hbs]; simp)
          clear HR hU hno hNq hNr hbs
          go_enter Try.func93, Try.ntmps93
          go_wp2_with fail
          refine (HP.out _).mono ?_; rintro e w1 ⟨rfl, hb1⟩
          go_wp2_with fail
          refine (wmore_any q false _ hq).mono ?_; rintro e w2 ⟨rfl, rfl⟩
          simp only [Bool.false_eq_true, if_false, Bool.not_false, Bool.true_or]
          go_wp2_with fail
          refine (wunder_any a d _).mono ?_; rintro e w3 ⟨rfl, rfl⟩
          rw [HS.out]
          go_wp2_with fail
          refine (wsigned_any (q) bs _ (hq)).mono ?_; rintro e w4 ⟨rfl, rfl⟩
          go_wp2_with fail
          go_ret2
          rw [HR2.out]
          exact ⟨rfl, hb1⟩
        · have hU : upB q r dd = true := by unfold upB; rw [decide_eq_true C2.out, decide_eq_true h2]; simp
          have y2 : (q : Int) % 2 = 1 := by omega
          by_cases hmx : q + 1 = 18446744073709551616
          · have HR2 : Hid (R = (0, false)) := Lib.hid (by rw [← HR.out]; unfold mdv; rw [HDD.out, if_neg hno, hNq, hNr, hU, hbs]; simp [hmx])
            have HMX := Lib.hid hmx
            clear HR hU hno hNq hNr hbs hmx
            go_enter Try.func93, Try.ntmps93
            go_wp2_with fail
            refine (HP.out _).mono ?_; rintro e w1 ⟨rfl, hb1⟩
            go_wp2_with fail
            refine (wmore_any q true _ hq).mono ?_; rintro e w2 ⟨rfl, rfl⟩
            rw [decide_eq_true HMX.out]
            simp only [if_pos HMX.out, if_true, Bool.not_true, Bool.false_or]
            go_wp2_with fail
            go_ret2
            rw [HR2.out]
            exact ⟨rfl, hb1⟩
          · have HR2 : Hid (R = sgnQ (q + 1) bs) := Lib.hid (by rw [← HR.out]; unfold mdv; rw [HDD.out, if_neg hno, hNq, hNr, hU, hbs]; simp [hmx])
            have HMX := Lib.hid hmx
            have hq1 : q + 1 < 18446744073709551616 := by omega
            have eq1 : (q : Int) + 1 = ((q + 1 : Nat) : Int) := by omega
            have EQ1 := Lib.hid eq1
            clear HR hU hno hNq hNr hbs hmx eq1
            go_enter Try.func93, Try.ntmps93
            go_wp2_with fail
            refine (HP.out _).mono ?_; rintro e w1 ⟨rfl, hb1⟩
            go_wp2_with fail
            refine (wmore_any q true _ hq).mono ?_; rintro e w2 ⟨rfl, rfl⟩
            rw [decide_eq_false HMX.out]
            simp only [if_neg HMX.out, if_true, Bool.not_true, Bool.false_or, Bool.not_false]
            rw [EQ1.out]
            obtain ⟨q1, hq1e⟩ : ∃ q1, q1 = q + 1 := ⟨_, rfl⟩
            rw [← hq1e] at HR2 hq1 ⊢
            clear hq1e EQ1
            go_wp2_with fail
            refine (wunder_any a d _).mono ?_; rintro e w3 ⟨rfl, rfl⟩
            rw [HS.out]
            go_wp2_with fail
            refine (wsigned_any (q1) bs _ (hq1)).mono ?_; rintro e w4 ⟨rfl, rfl⟩
            go_wp2_with fail
            go_ret2
            rw [HR2.out]
            exact ⟨rfl, hb1⟩
      · have hU : upB q r dd = false := by unfold upB; simp [c1, c2]
        have HR2 : Hid (R = sgnQ q bs) := Lib.hid (by rw [← HR.out]; unfold mdv; rw [HDD.out, if_neg hno, hNq, hNr, hU, hbs]; simp)
        clear HR hU hno hNq hNr hbs
        go_enter Try.func93, Try.ntmps93
        go_wp2_with fail
        refine (HP.out _).mono ?_; rintro e w1 ⟨rfl, hb1⟩
        go_wp2_with fail
        refine (wmore_any q false _ hq).mono ?_; rintro e w2 ⟨rfl, rfl⟩
        simp only [Bool.false_eq_true, if_false, Bool.not_false, Bool.true_or]
        go_wp2_with fail
        refine (wunder_any a d _).mono ?_; rintro e w3 ⟨rfl, rfl⟩
        rw [HS.out]
        go_wp2_with fail
        refine (wsigned_any (q) bs _ (hq)).mono ?_; rintro e w4 ⟨rfl, rfl⟩
        go_wp2_with fail
        go_ret2
        rw [HR2.out]
        exact ⟨rfl, hb1⟩
end Go.Proofs.Ytaadajadeemndaa
