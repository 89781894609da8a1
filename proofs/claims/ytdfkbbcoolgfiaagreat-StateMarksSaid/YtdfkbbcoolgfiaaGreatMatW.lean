/- mat.Wide, and the reference's Width. -/
import Derived.Test.YtdfkbbcoolgfiaaGreatMWide
import Derived.Test.YtdfkbbcoolgfiaaGreatMSt
import Derived.Test.YtdfkbbcoolgfiaaGreatMBk
import Derived.Test.YtdfkbbcoolgfiaaGreatDash1
import Derived.Test.YtdfkbbcoolgfiaaGreatDashR1
namespace Go.Proofs.YtdfkbbcoolgfiaaGreat
open Go.RowKit Go.BigFrame

/-- How wide a stroke is. -/
def wideM (m : Mt) (z : Int) : Int × Int :=
  if (mtB m && decide (0 ≤ z) && fixB z) = false then (0, 1) else if 2048 < z * flr ((detM m).natAbs : Int) / 4294967296 then (0, 2) else (z * flr ((detM m).natAbs : Int) / 4294967296, 0)
theorem flr_det {m : Mt} (h : mtB m = true) : 0 ≤ flr ((detM m).natAbs : Int) ∧ flr ((detM m).natAbs : Int) ≤ 2147483648 := by
  have hd := det_bd h
  obtain ⟨h1, h2, h3, _⟩ := flr_spec (n := ((detM m).natAbs : Int)) (by omega) (by omega)
  refine ⟨h1, ?_⟩
  rcases Int.lt_or_le 2147483648 (flr ((detM m).natAbs : Int)) with h | h
  · have := mulI_bd (a := 2147483649) (b := 2147483649) (A := 2147483649) (B := 2147483649) (by omega) (by omega) (by omega)
    have h4 : 2147483649 * 2147483649 ≤ flr ((detM m).natAbs : Int) * flr ((detM m).natAbs : Int) := Int.mul_le_mul (by omega) (by omega) (by omega) (by omega)
    omega
  · exact h
set_option maxRecDepth 100000 in
set_option maxHeartbeats 1000000 in
theorem rDetW_any (m : Mt) (w : World) (h : mtB m = true) : Calls Tryz.prog 42 #[mtv m] w fun e w' => e = .returned (.int .i64 (detM m)) ∧ Below w.heap.size w w' := by
  obtain ⟨f1, f2, f3, f4, _, _⟩ := mtB_fix h
  have p1 := mul_fix f1 f4
  have p2 := mul_fix f2 f3
  unfold detM mtv
  have e1 : IntKind.i64.wrap (m.a * m.d) = m.a * m.d := IntWalk.i64_in _ (by omega)
  have e2 : IntKind.i64.wrap (m.b * m.c) = m.b * m.c := IntWalk.i64_in _ (by omega)
  have e3 : IntKind.i64.wrap (m.a * m.d - m.b * m.c) = m.a * m.d - m.b * m.c := IntWalk.i64_in _ (by omega)
  clear f1 f2 f3 f4 p1 p2 h
  go_enter Tryz.func42, Tryz.ntmps42
  go_wp2
  go_ret
  exact ⟨rfl, bal (Below.refl _ _) _⟩
set_option maxRecDepth 100000 in
set_option maxHeartbeats 2000000 in
theorem matWide_any (m : Mt) (z : Int) (R : Int × Int) (w : World) (hR : wideM m z = R) : Calls Tryz.prog 29 #[mtv m, .int .i64 z] w fun e w' => e = .returned (.tuple #[.int .i64 R.1, .int .i64 R.2]) ∧ Below w.heap.size w w' := by
  have FLO := root_Floor_any
  obtain ⟨w0, hw0⟩ : ∃ w0 : World, w0 = w.alloc (.cells (mtC m).toArray 23) := ⟨_, rfl⟩
  have hB0 : Below w.heap.size w w0 := by rw [hw0]; exact bal (Below.refl _ _) _
  have hA : BC w0 w.heap.size (mtC m) := by rw [hw0]; exact BC.new (mtC m) 23 rfl
  have HM := Lib.hid fun W => matMay_any m W
  have HD := Lib.hid fun (h : mtB m = true) W => det_any m W h
  unfold mtv at HM HD ⊢
  unfold mtC at hw0
  have HR := Lib.hid hR
  clear hR
  have a0 := hA.c 0 _ rfl
  have a1 := hA.c 1 _ rfl
  have a2 := hA.c 2 _ rfl
  have a3 := hA.c 3 _ rfl
  have a4 := hA.c 4 _ rfl
  have a5 := hA.c 5 _ rfl
  go_enter Tryz.func29, Tryz.ntmps29
  go_upto_region 1 with (fail)
  rw [← hw0]
  clear hw0
  go_wp2_with fail
  refine (HM.out _).mono ?_; rintro e w1 ⟨rfl, hb1⟩
  have B1 := btr hB0 hb1
  have hA1 := hA.below hb1
  clear a0 a1 a2 a3 a4 a5 hb1 hA hB0
  cases hm : mtB m
  · have HR2 : Hid (R = (0, 1)) := Lib.hid (by rw [← HR.out]; unfold wideM; rw [hm]; simp)
    go_wp2_with fail
    go_ret2
    rw [HR2.out]
    exact ⟨rfl, B1⟩
  · by_cases hz0' : z < 0
    · have HR2 : Hid (R = (0, 1)) := Lib.hid (by rw [← HR.out]; unfold wideM; rw [hm, show decide (0 ≤ z) = false from decide_eq_false (by omega)]; simp)
      have hd0 : decide (z < 0) = true := decide_eq_true hz0'
      go_wp2_with fail
      go_ret2
      rw [HR2.out]
      exact ⟨rfl, B1⟩
    · have hz0 : decide (0 ≤ z) = true := decide_eq_true (by omega)
      have hd0 : decide (z < 0) = false := decide_eq_false hz0'
      go_wp2_with fail
      refine (fix_any z _).mono ?_; rintro e w' ⟨rfl, rfl⟩
      cases hz : fixB z
      · have HR2 : Hid (R = (0, 1)) := Lib.hid (by rw [← HR.out]; unfold wideM; rw [hz]; simp)
        go_wp2_with fail
        go_ret2
        rw [HR2.out]
        exact ⟨rfl, B1⟩
      · have a0 := hA1.c 0 _ rfl
        have a1 := hA1.c 1 _ rfl
        have a2 := hA1.c 2 _ rfl
        have a3 := hA1.c 3 _ rfl
        have a4 := hA1.c 4 _ rfl
        have a5 := hA1.c 5 _ rfl
        have hfl := flr_det hm
        have hdb := det_bd hm
        obtain ⟨D, hD⟩ : ∃ D, detM m = D := ⟨_, rfl⟩
        have HDm := Lib.hid (HD.out hm)
        have HR4 : Hid (R = if 2048 < z * flr (D.natAbs : Int) / 4294967296 then (0, 2) else (z * flr (D.natAbs : Int) / 4294967296, 0)) := Lib.hid (by rw [← HR.out, ← hD]; unfold wideM; rw [hm, hz, hz0]; rfl)
        rw [hD] at HDm hfl hdb
        obtain ⟨dd, hdd⟩ : ∃ dd : Nat, D.natAbs = dd := ⟨_, rfl⟩
        rw [hdd] at hfl HR4
        have HF := Lib.hid fun W => FLO (dd : Int) W (by omega) (by omega)
        obtain ⟨fl, hfe⟩ : ∃ fl, flr (dd : Int) = fl := ⟨_, rfl⟩
        rw [hfe] at hfl HF HR4
        have hz2 := fixB_iff.1 hz
        have hz3 : 0 ≤ z := of_decide_eq_true hz0
        have hmb := mulI_bd (a := z) (b := fl) (A := 1073741823) (B := 2147483648) (by omega) (by omega) (by omega)
        have e1 : IntKind.i64.wrap (z * fl) = z * fl := IntWalk.i64_in _ (by omega)
        have e2 : IntKind.i64.wrap fl = fl := IntWalk.i64_in _ (by omega)
        obtain ⟨V, hV⟩ : ∃ V, z * fl / 4294967296 = V := ⟨_, rfl⟩
        rw [hV] at HR4
        have HR3 := HR4
        have HDD := Lib.hid hdd
        clear hD hfe hmb HR4 HR hdd hz2 hz3 hfl
        go_wp2_with fail
        refine (HDm.out _).mono ?_; rintro e w2 ⟨rfl, hb2⟩
        have B2 := btr B1 hb2
        clear a0 a1 a2 a3 a4 a5 hA1 hb2 B1
        have hdd := HDD.out
        by_cases hDn : D < 0
        · have hd2 : decide (D < 0) = true := decide_eq_true hDn
          have e3 : wrap64 (-D) = (dd : Int) := by rw [IntWalk.wrap64_in _ (by omega)]; omega
          have e4 : IntKind.u64.wrap (dd : Int) = (dd : Int) := u64_in (by omega) (by omega)
          clear hDn hdd hdb
          go_wp2_with fail
          refine (HF.out _).mono ?_; rintro e w' ⟨rfl, rfl⟩
          by_cases hv : 2048 < V
          · have HR2 : Hid (R = (0, 2)) := Lib.hid (by rw [HR3.out, if_pos hv])
            have hd1 : decide (2048 < V) = true := decide_eq_true hv
            clear hv
            go_wp2_with fail
            go_ret2
            rw [HR2.out]
            exact ⟨rfl, B2⟩
          · have HR2 : Hid (R = (V, 0)) := Lib.hid (by rw [HR3.out, if_neg hv])
            have hd1 : decide (2048 < V) = false := decide_eq_false hv
            clear hv
            go_wp2_with fail
            go_ret2
            rw [HR2.out]
            exact ⟨rfl, B2⟩
        · have hd2 : decide (D < 0) = false := decide_eq_false hDn
          have e4 : IntKind.u64.wrap D = (dd : Int) := by rw [u64_in (by omega) (by omega)]; omega
          clear hDn hdd hdb
          go_wp2_with fail
          refine (HF.out _).mono ?_; rintro e w' ⟨rfl, rfl⟩
          by_cases hv : 2048 < V
          · have HR2 : Hid (R = (0, 2)) := Lib.hid (by rw [HR3.out, if_pos hv])
            have hd1 : decide (2048 < V) = true := decide_eq_true hv
            clear hv
            go_wp2_with fail
            go_ret2
            rw [HR2.out]
            exact ⟨rfl, B2⟩
          · have HR2 : Hid (R = (V, 0)) := Lib.hid (by rw [HR3.out, if_neg hv])
            have hd1 : decide (2048 < V) = false := decide_eq_false hv
            clear hv
            go_wp2_with fail
            go_ret2
            rw [HR2.out]
            exact ⟨rfl, B2⟩
set_option maxRecDepth 100000 in
set_option maxHeartbeats 2000000 in
theorem rWidth_any (m : Mt) (z : Int) (R : Int × Int) (w : World) (hR : wideM m z = R) : Calls Tryz.prog 34 #[mtv m, .int .i64 z] w fun e w' => e = .returned (.tuple #[.int .i64 R.1, .int .i64 R.2]) ∧ Below w.heap.size w w' := by
  have FLO := ref_Floor_any
  obtain ⟨w0, hw0⟩ : ∃ w0 : World, w0 = w.alloc (.cells (mtC m).toArray 23) := ⟨_, rfl⟩
  have hB0 : Below w.heap.size w w0 := by rw [hw0]; exact bal (Below.refl _ _) _
  have hA : BC w0 w.heap.size (mtC m) := by rw [hw0]; exact BC.new (mtC m) 23 rfl
  have HM := Lib.hid fun W => rMay_any m W
  have HD := Lib.hid fun (h : mtB m = true) W => rDetW_any m W h
  unfold mtv at HM HD ⊢
  unfold mtC at hw0
  have HR := Lib.hid hR
  clear hR
  have a0 := hA.c 0 _ rfl
  have a1 := hA.c 1 _ rfl
  have a2 := hA.c 2 _ rfl
  have a3 := hA.c 3 _ rfl
  have a4 := hA.c 4 _ rfl
  have a5 := hA.c 5 _ rfl
  go_enter Tryz.func34, Tryz.ntmps34
  go_upto_region 1 with (fail)
  rw [← hw0]
  clear hw0
  go_wp2_with fail
  refine (HM.out _).mono ?_; rintro e w1 ⟨rfl, hb1⟩
  have B1 := btr hB0 hb1
  have hA1 := hA.below hb1
  clear a0 a1 a2 a3 a4 a5 hb1 hA hB0
  cases hm : mtB m
  · have HR2 : Hid (R = (0, 1)) := Lib.hid (by rw [← HR.out]; unfold wideM; rw [hm]; simp)
    go_wp2_with fail
    go_ret2
    rw [HR2.out]
    exact ⟨rfl, B1⟩
  · go_wp2_with fail
    refine (rIsFix_any z _).mono ?_; rintro e w' ⟨rfl, rfl⟩
    cases hz : fixB z
    · have HR2 : Hid (R = (0, 1)) := Lib.hid (by rw [← HR.out]; unfold wideM; rw [hz]; simp)
      go_wp2_with fail
      go_ret2
      rw [HR2.out]
      exact ⟨rfl, B1⟩
    · by_cases hz0' : z < 0
      · have HR2 : Hid (R = (0, 1)) := Lib.hid (by rw [← HR.out]; unfold wideM; rw [hm, show decide (0 ≤ z) = false from decide_eq_false (by omega)]; simp)
        have hd0 : decide (z < 0) = true := decide_eq_true hz0'
        go_wp2_with fail
        go_ret2
        rw [HR2.out]
        exact ⟨rfl, B1⟩
      · have hz0 : decide (0 ≤ z) = true := decide_eq_true (by omega)
        have hd0 : decide (z < 0) = false := decide_eq_false hz0'
        have a0 := hA1.c 0 _ rfl
        have a1 := hA1.c 1 _ rfl
        have a2 := hA1.c 2 _ rfl
        have a3 := hA1.c 3 _ rfl
        have a4 := hA1.c 4 _ rfl
        have a5 := hA1.c 5 _ rfl
        have hfl := flr_det hm
        have hdb := det_bd hm
        obtain ⟨D, hD⟩ : ∃ D, detM m = D := ⟨_, rfl⟩
        have HDm := Lib.hid (HD.out hm)
        have HR4 : Hid (R = if 2048 < z * flr (D.natAbs : Int) / 4294967296 then (0, 2) else (z * flr (D.natAbs : Int) / 4294967296, 0)) := Lib.hid (by rw [← HR.out, ← hD]; unfold wideM; rw [hm, hz, hz0]; rfl)
        rw [hD] at HDm hfl hdb
        obtain ⟨dd, hdd⟩ : ∃ dd : Nat, D.natAbs = dd := ⟨_, rfl⟩
        rw [hdd] at hfl HR4
        have HF := Lib.hid fun W => FLO (dd : Int) W (by omega) (by omega)
        obtain ⟨fl, hfe⟩ : ∃ fl, flr (dd : Int) = fl := ⟨_, rfl⟩
        rw [hfe] at hfl HF HR4
        have hz2 := fixB_iff.1 hz
        have hz3 : 0 ≤ z := of_decide_eq_true hz0
        have hmb := mulI_bd (a := z) (b := fl) (A := 1073741823) (B := 2147483648) (by omega) (by omega) (by omega)
        have e1 : IntKind.i64.wrap (z * fl) = z * fl := IntWalk.i64_in _ (by omega)
        have e2 : IntKind.i64.wrap fl = fl := IntWalk.i64_in _ (by omega)
        obtain ⟨V, hV⟩ : ∃ V, z * fl / 4294967296 = V := ⟨_, rfl⟩
        rw [hV] at HR4
        have HR3 := HR4
        have HDD := Lib.hid hdd
        clear hD hfe hmb HR4 HR hdd hz2 hz3 hfl
        have HAb := Lib.hid fun W => rAbs_any D W (by omega)
        rw [HDD.out] at HAb
        clear hdb
        go_wp2_with fail
        refine (HDm.out _).mono ?_; rintro e w2 ⟨rfl, hb2⟩
        have B2 := btr B1 hb2
        clear a0 a1 a2 a3 a4 a5 hA1 hb2 B1
        go_wp2_with fail
        refine (HAb.out _).mono ?_; rintro e w' ⟨rfl, rfl⟩
        go_wp2_with fail
        refine (HF.out _).mono ?_; rintro e w' ⟨rfl, rfl⟩
        by_cases hv : 2048 < V
        · have HR2 : Hid (R = (0, 2)) := Lib.hid (by rw [HR3.out, if_pos hv])
          have hd1 : decide (2048 < V) = true := decide_eq_true hv
          clear hv
          go_wp2_with fail
          go_ret2
          rw [HR2.out]
          exact ⟨rfl, B2⟩
        · have HR2 : Hid (R = (V, 0)) := Lib.hid (by rw [HR3.out, if_neg hv])
          have hd1 : decide (2048 < V) = false := decide_eq_false hv
          clear hv
          go_wp2_with fail
          go_ret2
          rw [HR2.out]
          exact ⟨rfl, B2⟩
end Go.Proofs.YtdfkbbcoolgfiaaGreat
