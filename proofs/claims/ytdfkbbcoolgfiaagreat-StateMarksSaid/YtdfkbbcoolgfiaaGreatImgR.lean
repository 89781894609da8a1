/- The reference's MayImage. -/
import Derived.Test.YtdfkbbcoolgfiaaGreatImg
namespace Go.Proofs.YtdfkbbcoolgfiaaGreat
open Go.RowKit Go.BigFrame

set_option maxRecDepth 100000 in
set_option maxHeartbeats 4000000 in
theorem rImMay_any (i : Im) (w : World) : Calls Tryz.prog 39 #[imv i] w fun e w' => e = .returned (.bool (imB i)) ∧ Below w.heap.size w w' := by
  obtain ⟨w0, hw0⟩ : ∃ w0 : World, w0 = w.alloc (.cells (imC i).toArray 34) := ⟨_, rfl⟩
  have hB0 : Below w.heap.size w w0 := by rw [hw0]; exact bal (Below.refl _ _) _
  have hA : BC w0 w.heap.size (imC i) := by rw [hw0]; exact BC.new (imC i) 34 rfl
  obtain ⟨q, hq⟩ : ∃ q, imB i = q := ⟨_, rfl⟩
  rw [hq]
  have HQ := Lib.hid hq
  unfold imv
  unfold imC at hw0 ⊢
  clear hq
  have c0 := hA.c 0 _ rfl
  have c1 := hA.c 1 _ rfl
  have c2 := hA.c 2 _ rfl
  have a0 := fun x : Grown w0 => x.cell (hA.c 0 _ rfl) hA.lt
  have a1 := fun x : Grown w0 => x.cell (hA.c 1 _ rfl) hA.lt
  have a2 := fun x : Grown w0 => x.cell (hA.c 2 _ rfl) hA.lt
  have a3 := fun x : Grown w0 => x.cell (hA.c 3 _ rfl) hA.lt
  go_enter Tryz.func39, Tryz.ntmps39
  go_upto_region 1 with (fail)
  rw [← hw0]
  clear hw0
  by_cases h1 : i.w < 1
  · have d1 : decide (i.w < 1) = true := decide_eq_true h1
    have g1 : decide (1 ≤ i.w) = false := decide_eq_false (by omega)
    have HQ2 : Hid (q = false) := Lib.hid (by rw [← HQ.out]; unfold imB imSz; rw [g1]; simp)
    clear h1
    go_wp2_with fail
    try rw [Exit.noGoto_ret]
    go_ret
    exact ⟨ret_bool HQ2.out.symm, hB0⟩
  have d1 : decide (i.w < 1) = false := decide_eq_false h1
  have g1 : decide (1 ≤ i.w) = true := decide_eq_true (by omega)
  by_cases h2 : 64 < i.w
  · have d2 : decide (64 < i.w) = true := decide_eq_true h2
    have g2 : decide (i.w ≤ 64) = false := decide_eq_false (by omega)
    have HQ2 : Hid (q = false) := Lib.hid (by rw [← HQ.out]; unfold imB imSz; rw [g2]; simp)
    clear h1 h2
    go_wp2_with fail
    try rw [Exit.noGoto_ret]
    go_ret
    exact ⟨ret_bool HQ2.out.symm, hB0⟩
  have d2 : decide (64 < i.w) = false := decide_eq_false h2
  have g2 : decide (i.w ≤ 64) = true := decide_eq_true (by omega)
  by_cases h3 : i.h < 1
  · have d3 : decide (i.h < 1) = true := decide_eq_true h3
    have g3 : decide (1 ≤ i.h) = false := decide_eq_false (by omega)
    have HQ2 : Hid (q = false) := Lib.hid (by rw [← HQ.out]; unfold imB imSz; rw [g3]; simp)
    clear h1 h2 h3
    go_wp2_with fail
    try rw [Exit.noGoto_ret]
    go_ret
    exact ⟨ret_bool HQ2.out.symm, hB0⟩
  have d3 : decide (i.h < 1) = false := decide_eq_false h3
  have g3 : decide (1 ≤ i.h) = true := decide_eq_true (by omega)
  by_cases h4 : 64 < i.h
  · have d4 : decide (64 < i.h) = true := decide_eq_true h4
    have g4 : decide (i.h ≤ 64) = false := decide_eq_false (by omega)
    have HQ2 : Hid (q = false) := Lib.hid (by rw [← HQ.out]; unfold imB imSz; rw [g4]; simp)
    clear h1 h2 h3 h4
    go_wp2_with fail
    try rw [Exit.noGoto_ret]
    go_ret
    exact ⟨ret_bool HQ2.out.symm, hB0⟩
  have d4 : decide (64 < i.h) = false := decide_eq_false h4
  have g4 : decide (i.h ≤ 64) = true := decide_eq_true (by omega)
  clear h1 h2 h3 h4
  by_cases hb1 : i.b = 1 ∨ i.b = 2 ∨ i.b = 4 ∨ i.b = 8
  · have hbits : imBits i = true := by simp [imBits]; omega
    rcases hb1 with hb1 | hb1 | hb1 | hb1
    · have HBV := Lib.hid hb1
      simp only [hb1] at c2 a2
      rw [hb1]
      clear hb1
      have hsz : imSz i = true := by unfold imSz; rw [g1, g2, g3, g4]; rfl
      have HRW := Lib.hid fun W => rImRow_any i W hsz hbits
      obtain ⟨rw_, hrw⟩ : ∃ r, (i.w * i.b + 7).tdiv 8 = r := ⟨_, rfl⟩
      have HQ2 : Hid (q = ((i.d.size : Int) == i.h * rw_)) := Lib.hid (by rw [← HQ.out, ← hrw]; unfold imB; rw [hsz, hbits]; simp)
      have hrb : 0 ≤ rw_ ∧ rw_ ≤ 65 := by
        have hb : 1 ≤ i.b ∧ i.b ≤ 8 := by simp [imBits] at hbits; omega
        have hw1 : 1 ≤ i.w := of_decide_eq_true g1
        have hw2 : i.w ≤ 64 := of_decide_eq_true g2
        have hm : 0 ≤ i.w * i.b ∧ i.w * i.b ≤ 512 := by
          constructor
          · exact Int.mul_nonneg (by omega) (by omega)
          · have := Int.mul_le_mul hw2 hb.2 (by omega) (by omega); omega
        rw [← hrw, Int.tdiv_eq_ediv_of_nonneg (by omega)]; omega
      have hmul : 0 ≤ i.h * rw_ ∧ i.h * rw_ ≤ 4160 := by
        have hh1 : 1 ≤ i.h := of_decide_eq_true g3
        have hh2 : i.h ≤ 64 := of_decide_eq_true g4
        constructor
        · exact Int.mul_nonneg (by omega) (by omega)
        · have := Int.mul_le_mul hh2 hrb.2 (by omega) (by omega); omega
      have e5 : IntKind.i64.wrap (i.h * rw_) = i.h * rw_ := IntWalk.i64_in _ (by omega)
      rw [hrw] at HRW
      unfold imv imC at HRW
      rw [HBV.out] at HRW
      clear hrw hrb hmul
      go_wp2_with fail
      refine wp_region_grown (by kernel_rfl) (by kernel_rfl) ?_
      repeat (go_big_quiet_step (first
        | (go_at_call 87; with_reducible exact Calls.grown (HRW.out _))
        | fail))
      refine wpQuiet_nil ?_
      rintro _ ⟨y, rfl⟩
      obtain ⟨w4, hb4⟩ := y
      simp only
      have B4 := btr hB0 hb4
      go_wp2_with fail
      try rw [Exit.noGoto_ret]
      go_ret
      exact ⟨ret_bool HQ2.out.symm, B4⟩
    · have HBV := Lib.hid hb1
      simp only [hb1] at c2 a2
      rw [hb1]
      clear hb1
      have hsz : imSz i = true := by unfold imSz; rw [g1, g2, g3, g4]; rfl
      have HRW := Lib.hid fun W => rImRow_any i W hsz hbits
      obtain ⟨rw_, hrw⟩ : ∃ r, (i.w * i.b + 7).tdiv 8 = r := ⟨_, rfl⟩
      have HQ2 : Hid (q = ((i.d.size : Int) == i.h * rw_)) := Lib.hid (by rw [← HQ.out, ← hrw]; unfold imB; rw [hsz, hbits]; simp)
      have hrb : 0 ≤ rw_ ∧ rw_ ≤ 65 := by
        have hb : 1 ≤ i.b ∧ i.b ≤ 8 := by simp [imBits] at hbits; omega
        have hw1 : 1 ≤ i.w := of_decide_eq_true g1
        have hw2 : i.w ≤ 64 := of_decide_eq_true g2
        have hm : 0 ≤ i.w * i.b ∧ i.w * i.b ≤ 512 := by
          constructor
          · exact Int.mul_nonneg (by omega) (by omega)
          · have := Int.mul_le_mul hw2 hb.2 (by omega) (by omega); omega
        rw [← hrw, Int.tdiv_eq_ediv_of_nonneg (by omega)]; omega
      have hmul : 0 ≤ i.h * rw_ ∧ i.h * rw_ ≤ 4160 := by
        have hh1 : 1 ≤ i.h := of_decide_eq_true g3
        have hh2 : i.h ≤ 64 := of_decide_eq_true g4
        constructor
        · exact Int.mul_nonneg (by omega) (by omega)
        · have := Int.mul_le_mul hh2 hrb.2 (by omega) (by omega); omega
      have e5 : IntKind.i64.wrap (i.h * rw_) = i.h * rw_ := IntWalk.i64_in _ (by omega)
      rw [hrw] at HRW
      unfold imv imC at HRW
      rw [HBV.out] at HRW
      clear hrw hrb hmul
      go_wp2_with fail
      refine wp_region_grown (by kernel_rfl) (by kernel_rfl) ?_
      repeat (go_big_quiet_step (first
        | (go_at_call 87; with_reducible exact Calls.grown (HRW.out _))
        | fail))
      refine wpQuiet_nil ?_
      rintro _ ⟨y, rfl⟩
      obtain ⟨w4, hb4⟩ := y
      simp only
      have B4 := btr hB0 hb4
      go_wp2_with fail
      try rw [Exit.noGoto_ret]
      go_ret
      exact ⟨ret_bool HQ2.out.symm, B4⟩
    · have HBV := Lib.hid hb1
      simp only [hb1] at c2 a2
      rw [hb1]
      clear hb1
      have hsz : imSz i = true := by unfold imSz; rw [g1, g2, g3, g4]; rfl
      have HRW := Lib.hid fun W => rImRow_any i W hsz hbits
      obtain ⟨rw_, hrw⟩ : ∃ r, (i.w * i.b + 7).tdiv 8 = r := ⟨_, rfl⟩
      have HQ2 : Hid (q = ((i.d.size : Int) == i.h * rw_)) := Lib.hid (by rw [← HQ.out, ← hrw]; unfold imB; rw [hsz, hbits]; simp)
      have hrb : 0 ≤ rw_ ∧ rw_ ≤ 65 := by
        have hb : 1 ≤ i.b ∧ i.b ≤ 8 := by simp [imBits] at hbits; omega
        have hw1 : 1 ≤ i.w := of_decide_eq_true g1
        have hw2 : i.w ≤ 64 := of_decide_eq_true g2
        have hm : 0 ≤ i.w * i.b ∧ i.w * i.b ≤ 512 := by
          constructor
          · exact Int.mul_nonneg (by omega) (by omega)
          · have := Int.mul_le_mul hw2 hb.2 (by omega) (by omega); omega
        rw [← hrw, Int.tdiv_eq_ediv_of_nonneg (by omega)]; omega
      have hmul : 0 ≤ i.h * rw_ ∧ i.h * rw_ ≤ 4160 := by
        have hh1 : 1 ≤ i.h := of_decide_eq_true g3
        have hh2 : i.h ≤ 64 := of_decide_eq_true g4
        constructor
        · exact Int.mul_nonneg (by omega) (by omega)
        · have := Int.mul_le_mul hh2 hrb.2 (by omega) (by omega); omega
      have e5 : IntKind.i64.wrap (i.h * rw_) = i.h * rw_ := IntWalk.i64_in _ (by omega)
      rw [hrw] at HRW
      unfold imv imC at HRW
      rw [HBV.out] at HRW
      clear hrw hrb hmul
      go_wp2_with fail
      refine wp_region_grown (by kernel_rfl) (by kernel_rfl) ?_
      repeat (go_big_quiet_step (first
        | (go_at_call 87; with_reducible exact Calls.grown (HRW.out _))
        | fail))
      refine wpQuiet_nil ?_
      rintro _ ⟨y, rfl⟩
      obtain ⟨w4, hb4⟩ := y
      simp only
      have B4 := btr hB0 hb4
      go_wp2_with fail
      try rw [Exit.noGoto_ret]
      go_ret
      exact ⟨ret_bool HQ2.out.symm, B4⟩
    · have HBV := Lib.hid hb1
      simp only [hb1] at c2 a2
      rw [hb1]
      clear hb1
      have hsz : imSz i = true := by unfold imSz; rw [g1, g2, g3, g4]; rfl
      have HRW := Lib.hid fun W => rImRow_any i W hsz hbits
      obtain ⟨rw_, hrw⟩ : ∃ r, (i.w * i.b + 7).tdiv 8 = r := ⟨_, rfl⟩
      have HQ2 : Hid (q = ((i.d.size : Int) == i.h * rw_)) := Lib.hid (by rw [← HQ.out, ← hrw]; unfold imB; rw [hsz, hbits]; simp)
      have hrb : 0 ≤ rw_ ∧ rw_ ≤ 65 := by
        have hb : 1 ≤ i.b ∧ i.b ≤ 8 := by simp [imBits] at hbits; omega
        have hw1 : 1 ≤ i.w := of_decide_eq_true g1
        have hw2 : i.w ≤ 64 := of_decide_eq_true g2
        have hm : 0 ≤ i.w * i.b ∧ i.w * i.b ≤ 512 := by
          constructor
          · exact Int.mul_nonneg (by omega) (by omega)
          · have := Int.mul_le_mul hw2 hb.2 (by omega) (by omega); omega
        rw [← hrw, Int.tdiv_eq_ediv_of_nonneg (by omega)]; omega
      have hmul : 0 ≤ i.h * rw_ ∧ i.h * rw_ ≤ 4160 := by
        have hh1 : 1 ≤ i.h := of_decide_eq_true g3
        have hh2 : i.h ≤ 64 := of_decide_eq_true g4
        constructor
        · exact Int.mul_nonneg (by omega) (by omega)
        · have := Int.mul_le_mul hh2 hrb.2 (by omega) (by omega); omega
      have e5 : IntKind.i64.wrap (i.h * rw_) = i.h * rw_ := IntWalk.i64_in _ (by omega)
      rw [hrw] at HRW
      unfold imv imC at HRW
      rw [HBV.out] at HRW
      clear hrw hrb hmul
      go_wp2_with fail
      refine wp_region_grown (by kernel_rfl) (by kernel_rfl) ?_
      repeat (go_big_quiet_step (first
        | (go_at_call 87; with_reducible exact Calls.grown (HRW.out _))
        | fail))
      refine wpQuiet_nil ?_
      rintro _ ⟨y, rfl⟩
      obtain ⟨w4, hb4⟩ := y
      simp only
      have B4 := btr hB0 hb4
      go_wp2_with fail
      try rw [Exit.noGoto_ret]
      go_ret
      exact ⟨ret_bool HQ2.out.symm, B4⟩
  · have hbits : imBits i = false := by simp [imBits]; omega
    have b1 : (i.b == 1) = false := by simp; omega
    have b2 : (i.b == 2) = false := by simp; omega
    have b4 : (i.b == 4) = false := by simp; omega
    have b8 : (i.b == 8) = false := by simp; omega
    have m1 : (i.b != 1) = true := by simp; omega
    have m2 : (i.b != 2) = true := by simp; omega
    have m4 : (i.b != 4) = true := by simp; omega
    have m8 : (i.b != 8) = true := by simp; omega
    have HQ2 : Hid (q = false) := Lib.hid (by rw [← HQ.out]; unfold imB; rw [hbits]; simp)
    clear hb1
    go_wp2_with fail
    try rw [Exit.noGoto_ret]
    go_ret
    exact ⟨ret_bool HQ2.out.symm, hB0⟩
end Go.Proofs.YtdfkbbcoolgfiaaGreat
