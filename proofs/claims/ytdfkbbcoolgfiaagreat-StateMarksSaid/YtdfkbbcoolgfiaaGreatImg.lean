/- image.May, and the reference's MayImage. -/
import Derived.Test.YtdfkbbcoolgfiaaGreatMMat
import Derived.Test.YtdfkbbcoolgfiaaGreatMCls
import Derived.Test.YtdfkbbcoolgfiaaGreatAllP
import Derived.BigRegion
namespace Go.Proofs.YtdfkbbcoolgfiaaGreat
open Go.RowKit Go.BigFrame

structure Im where
  w : Int
  h : Int
  b : Int
  d : ByteArray
def imC (i : Im) : List Value := [.int .i64 i.w, .int .i64 i.h, .int .i64 i.b, .string i.d]
def imv (i : Im) : Value := .agg (imC i).toArray
def imSz (i : Im) : Bool := decide (1 ≤ i.w) && decide (i.w ≤ 64) && decide (1 ≤ i.h) && decide (i.h ≤ 64)
def imBits (i : Im) : Bool := i.b == 1 || i.b == 2 || i.b == 4 || i.b == 8
/-- May a picture be? -/
def imB (i : Im) : Bool := imBits i && imSz i && ((i.d.size : Int) == i.h * ((i.w * i.b + 7).tdiv 8))
set_option maxRecDepth 100000 in
theorem imRow_any (i : Im) (w : World) (h1 : imSz i = true) (h2 : imBits i = true) : Calls Tryz.prog 82 #[imv i] w fun e w' => e = .returned (.int .i64 ((i.w * i.b + 7).tdiv 8)) ∧ Below w.heap.size w w' := by
  have hb : 1 ≤ i.b ∧ i.b ≤ 8 := by simp [imBits] at h2; omega
  have hw : 1 ≤ i.w ∧ i.w ≤ 64 := by simp [imSz] at h1; omega
  have hm : 0 ≤ i.w * i.b ∧ i.w * i.b ≤ 512 := by
    constructor
    · exact Int.mul_nonneg (by omega) (by omega)
    · have := Int.mul_le_mul hw.2 hb.2 (by omega) (by omega); omega
  have e1 : IntKind.i64.wrap (i.w * i.b) = i.w * i.b := IntWalk.i64_in _ (by omega)
  have e2 : IntKind.i64.wrap (i.w * i.b + 7) = i.w * i.b + 7 := IntWalk.i64_in _ (by omega)
  obtain ⟨q, hq⟩ : ∃ q, (i.w * i.b + 7).tdiv 8 = q := ⟨_, rfl⟩
  rw [hq]
  have hq2 : -4611686018427387904 ≤ q ∧ q ≤ 4611686018427387904 := by
    rw [← hq, Int.tdiv_eq_ediv_of_nonneg (by omega)]; omega
  have e3 : IntKind.i64.wrap q = q := IntWalk.i64_in _ (by omega)
  unfold imv imC
  clear h1 h2 hb hw hm
  go_enter Tryz.func82, Tryz.ntmps82
  go_wp2
  go_ret
  exact ⟨rfl, bal (Below.refl _ _) _⟩
set_option maxRecDepth 100000 in
theorem rImRow_any (i : Im) (w : World) (h1 : imSz i = true) (h2 : imBits i = true) : Calls Tryz.prog 87 #[imv i] w fun e w' => e = .returned (.int .i64 ((i.w * i.b + 7).tdiv 8)) ∧ Below w.heap.size w w' := by
  have hb : 1 ≤ i.b ∧ i.b ≤ 8 := by simp [imBits] at h2; omega
  have hw : 1 ≤ i.w ∧ i.w ≤ 64 := by simp [imSz] at h1; omega
  have hm : 0 ≤ i.w * i.b ∧ i.w * i.b ≤ 512 := by
    constructor
    · exact Int.mul_nonneg (by omega) (by omega)
    · have := Int.mul_le_mul hw.2 hb.2 (by omega) (by omega); omega
  have e1 : IntKind.i64.wrap (i.w * i.b) = i.w * i.b := IntWalk.i64_in _ (by omega)
  have e2 : IntKind.i64.wrap (i.w * i.b + 7) = i.w * i.b + 7 := IntWalk.i64_in _ (by omega)
  obtain ⟨q, hq⟩ : ∃ q, (i.w * i.b + 7).tdiv 8 = q := ⟨_, rfl⟩
  rw [hq]
  have hq2 : -4611686018427387904 ≤ q ∧ q ≤ 4611686018427387904 := by
    rw [← hq, Int.tdiv_eq_ediv_of_nonneg (by omega)]; omega
  have e3 : IntKind.i64.wrap q = q := IntWalk.i64_in _ (by omega)
  unfold imv imC
  clear h1 h2 hb hw hm
  go_enter Tryz.func87, Tryz.ntmps87
  go_wp2
  go_ret
  exact ⟨rfl, bal (Below.refl _ _) _⟩
set_option maxRecDepth 100000 in
set_option maxHeartbeats 4000000 in
theorem imMay_any (i : Im) (w : World) : Calls Tryz.prog 36 #[imv i] w fun e w' => e = .returned (.bool (imB i)) ∧ Below w.heap.size w w' := by
  obtain ⟨w0, hw0⟩ : ∃ w0 : World, w0 = w.alloc (.cells (imC i).toArray 34) := ⟨_, rfl⟩
  have hB0 : Below w.heap.size w w0 := by rw [hw0]; exact bal (Below.refl _ _) _
  have hA : BC w0 w.heap.size (imC i) := by rw [hw0]; exact BC.new (imC i) 34 rfl
  obtain ⟨q, hq⟩ : ∃ q, imB i = q := ⟨_, rfl⟩
  rw [hq]
  have HQ := Lib.hid hq
  unfold imv
  unfold imC at hw0 ⊢
  clear hq
  have c2 := hA.c 2 _ rfl
  have a0 := fun x : Grown w0 => x.cell (hA.c 0 _ rfl) hA.lt
  have a1 := fun x : Grown w0 => x.cell (hA.c 1 _ rfl) hA.lt
  have a2 := fun x : Grown w0 => x.cell (hA.c 2 _ rfl) hA.lt
  have a3 := fun x : Grown w0 => x.cell (hA.c 3 _ rfl) hA.lt
  go_enter Tryz.func36, Tryz.ntmps36
  go_upto_region 1 with (fail)
  rw [← hw0]
  clear hw0
  by_cases hb1 : i.b = 1 ∨ i.b = 2 ∨ i.b = 4 ∨ i.b = 8
  · have hbits : imBits i = true := by simp [imBits]; omega
    rcases hb1 with hb1 | hb1 | hb1 | hb1
    · have b1 : (i.b == 1) = true := by simp; omega
      clear hb1
      have hsz0 : Hid (imSz i = (decide (1 ≤ i.w) && decide (i.w ≤ 64) && decide (1 ≤ i.h) && decide (i.h ≤ 64))) := Lib.hid rfl
      by_cases h1 : 1 ≤ i.w
      case neg =>
        have d1 : decide (1 ≤ i.w) = false := decide_eq_false h1
        have HQ2 : Hid (q = false) := Lib.hid (by rw [← HQ.out]; unfold imB; rw [hsz0.out, d1]; simp)
        clear h1
        go_wp2_with fail
        refine wp_region_grown (by kernel_rfl) (by kernel_rfl) ?_
        repeat (go_big_quiet_step (fail))
        refine wpQuiet_nil ?_
        rintro _ ⟨y, rfl⟩
        obtain ⟨w4, hb4⟩ := y
        simp only
        have B4 := btr hB0 hb4
        go_wp2_with fail
        try rw [Exit.noGoto_ret]
        go_ret
        exact ⟨ret_bool HQ2.out.symm, B4⟩
      have d1 : decide (1 ≤ i.w) = true := decide_eq_true h1
      by_cases h2 : i.w ≤ 64
      case neg =>
        have d2 : decide (i.w ≤ 64) = false := decide_eq_false h2
        have HQ2 : Hid (q = false) := Lib.hid (by rw [← HQ.out]; unfold imB; rw [hsz0.out, d2]; simp)
        clear h1 h2
        go_wp2_with fail
        refine wp_region_grown (by kernel_rfl) (by kernel_rfl) ?_
        repeat (go_big_quiet_step (fail))
        refine wpQuiet_nil ?_
        rintro _ ⟨y, rfl⟩
        obtain ⟨w4, hb4⟩ := y
        simp only
        have B4 := btr hB0 hb4
        go_wp2_with fail
        try rw [Exit.noGoto_ret]
        go_ret
        exact ⟨ret_bool HQ2.out.symm, B4⟩
      have d2 : decide (i.w ≤ 64) = true := decide_eq_true h2
      by_cases h3 : 1 ≤ i.h
      case neg =>
        have d3 : decide (1 ≤ i.h) = false := decide_eq_false h3
        have HQ2 : Hid (q = false) := Lib.hid (by rw [← HQ.out]; unfold imB; rw [hsz0.out, d3]; simp)
        clear h1 h2 h3
        go_wp2_with fail
        refine wp_region_grown (by kernel_rfl) (by kernel_rfl) ?_
        repeat (go_big_quiet_step (fail))
        refine wpQuiet_nil ?_
        rintro _ ⟨y, rfl⟩
        obtain ⟨w4, hb4⟩ := y
        simp only
        have B4 := btr hB0 hb4
        go_wp2_with fail
        try rw [Exit.noGoto_ret]
        go_ret
        exact ⟨ret_bool HQ2.out.symm, B4⟩
      have d3 : decide (1 ≤ i.h) = true := decide_eq_true h3
      by_cases h4 : i.h ≤ 64
      case neg =>
        have d4 : decide (i.h ≤ 64) = false := decide_eq_false h4
        have HQ2 : Hid (q = false) := Lib.hid (by rw [← HQ.out]; unfold imB; rw [hsz0.out, d4]; simp)
        clear h1 h2 h3 h4
        go_wp2_with fail
        refine wp_region_grown (by kernel_rfl) (by kernel_rfl) ?_
        repeat (go_big_quiet_step (fail))
        refine wpQuiet_nil ?_
        rintro _ ⟨y, rfl⟩
        obtain ⟨w4, hb4⟩ := y
        simp only
        have B4 := btr hB0 hb4
        go_wp2_with fail
        try rw [Exit.noGoto_ret]
        go_ret
        exact ⟨ret_bool HQ2.out.symm, B4⟩
      have d4 : decide (i.h ≤ 64) = true := decide_eq_true h4
      have hsz : imSz i = true := by rw [hsz0.out, d1, d2, d3, d4]; rfl
      have HRW := Lib.hid fun W => imRow_any i W hsz hbits
      obtain ⟨rw_, hrw⟩ : ∃ r, (i.w * i.b + 7).tdiv 8 = r := ⟨_, rfl⟩
      have HQ2 : Hid (q = ((i.d.size : Int) == i.h * rw_)) := Lib.hid (by rw [← HQ.out, ← hrw]; unfold imB; rw [hsz, hbits]; simp)
      have hrb : 0 ≤ rw_ ∧ rw_ ≤ 65 := by
        have hb : 1 ≤ i.b ∧ i.b ≤ 8 := by simp [imBits] at hbits; omega
        have hm : 0 ≤ i.w * i.b ∧ i.w * i.b ≤ 512 := by
          constructor
          · exact Int.mul_nonneg (by omega) (by omega)
          · have := Int.mul_le_mul h2 hb.2 (by omega) (by omega); omega
        rw [← hrw, Int.tdiv_eq_ediv_of_nonneg (by omega)]; omega
      have hmul : 0 ≤ i.h * rw_ ∧ i.h * rw_ ≤ 4160 := by
        constructor
        · exact Int.mul_nonneg (by omega) (by omega)
        · have := Int.mul_le_mul h4 hrb.2 (by omega) (by omega); omega
      have e5 : IntKind.i64.wrap (i.h * rw_) = i.h * rw_ := IntWalk.i64_in _ (by omega)
      rw [hrw] at HRW
      unfold imv imC at HRW
      clear h1 h2 h3 h4 hrw hrb hmul
      go_wp2_with fail
      refine wp_region_grown (by kernel_rfl) (by kernel_rfl) ?_
      repeat (go_big_quiet_step (first
        | (go_at_call 82; with_reducible exact Calls.grown (HRW.out _))
        | fail))
      refine wpQuiet_nil ?_
      rintro _ ⟨y, rfl⟩
      obtain ⟨w4, hb4⟩ := y
      simp only
      have B4 := btr hB0 hb4
      go_wp2_with fail
      try rw [Exit.noGoto_ret]
      go_ret
      exact ⟨ret_bool HQ2.out.symm, B4⟩
    · have b1 : (i.b == 1) = false := by simp; omega
      have b2 : (i.b == 2) = true := by simp; omega
      clear hb1
      have hsz0 : Hid (imSz i = (decide (1 ≤ i.w) && decide (i.w ≤ 64) && decide (1 ≤ i.h) && decide (i.h ≤ 64))) := Lib.hid rfl
      by_cases h1 : 1 ≤ i.w
      case neg =>
        have d1 : decide (1 ≤ i.w) = false := decide_eq_false h1
        have HQ2 : Hid (q = false) := Lib.hid (by rw [← HQ.out]; unfold imB; rw [hsz0.out, d1]; simp)
        clear h1
        go_wp2_with fail
        refine wp_region_grown (by kernel_rfl) (by kernel_rfl) ?_
        repeat (go_big_quiet_step (fail))
        refine wpQuiet_nil ?_
        rintro _ ⟨y, rfl⟩
        obtain ⟨w4, hb4⟩ := y
        simp only
        have B4 := btr hB0 hb4
        go_wp2_with fail
        try rw [Exit.noGoto_ret]
        go_ret
        exact ⟨ret_bool HQ2.out.symm, B4⟩
      have d1 : decide (1 ≤ i.w) = true := decide_eq_true h1
      by_cases h2 : i.w ≤ 64
      case neg =>
        have d2 : decide (i.w ≤ 64) = false := decide_eq_false h2
        have HQ2 : Hid (q = false) := Lib.hid (by rw [← HQ.out]; unfold imB; rw [hsz0.out, d2]; simp)
        clear h1 h2
        go_wp2_with fail
        refine wp_region_grown (by kernel_rfl) (by kernel_rfl) ?_
        repeat (go_big_quiet_step (fail))
        refine wpQuiet_nil ?_
        rintro _ ⟨y, rfl⟩
        obtain ⟨w4, hb4⟩ := y
        simp only
        have B4 := btr hB0 hb4
        go_wp2_with fail
        try rw [Exit.noGoto_ret]
        go_ret
        exact ⟨ret_bool HQ2.out.symm, B4⟩
      have d2 : decide (i.w ≤ 64) = true := decide_eq_true h2
      by_cases h3 : 1 ≤ i.h
      case neg =>
        have d3 : decide (1 ≤ i.h) = false := decide_eq_false h3
        have HQ2 : Hid (q = false) := Lib.hid (by rw [← HQ.out]; unfold imB; rw [hsz0.out, d3]; simp)
        clear h1 h2 h3
        go_wp2_with fail
        refine wp_region_grown (by kernel_rfl) (by kernel_rfl) ?_
        repeat (go_big_quiet_step (fail))
        refine wpQuiet_nil ?_
        rintro _ ⟨y, rfl⟩
        obtain ⟨w4, hb4⟩ := y
        simp only
        have B4 := btr hB0 hb4
        go_wp2_with fail
        try rw [Exit.noGoto_ret]
        go_ret
        exact ⟨ret_bool HQ2.out.symm, B4⟩
      have d3 : decide (1 ≤ i.h) = true := decide_eq_true h3
      by_cases h4 : i.h ≤ 64
      case neg =>
        have d4 : decide (i.h ≤ 64) = false := decide_eq_false h4
        have HQ2 : Hid (q = false) := Lib.hid (by rw [← HQ.out]; unfold imB; rw [hsz0.out, d4]; simp)
        clear h1 h2 h3 h4
        go_wp2_with fail
        refine wp_region_grown (by kernel_rfl) (by kernel_rfl) ?_
        repeat (go_big_quiet_step (fail))
        refine wpQuiet_nil ?_
        rintro _ ⟨y, rfl⟩
        obtain ⟨w4, hb4⟩ := y
        simp only
        have B4 := btr hB0 hb4
        go_wp2_with fail
        try rw [Exit.noGoto_ret]
        go_ret
        exact ⟨ret_bool HQ2.out.symm, B4⟩
      have d4 : decide (i.h ≤ 64) = true := decide_eq_true h4
      have hsz : imSz i = true := by rw [hsz0.out, d1, d2, d3, d4]; rfl
      have HRW := Lib.hid fun W => imRow_any i W hsz hbits
      obtain ⟨rw_, hrw⟩ : ∃ r, (i.w * i.b + 7).tdiv 8 = r := ⟨_, rfl⟩
      have HQ2 : Hid (q = ((i.d.size : Int) == i.h * rw_)) := Lib.hid (by rw [← HQ.out, ← hrw]; unfold imB; rw [hsz, hbits]; simp)
      have hrb : 0 ≤ rw_ ∧ rw_ ≤ 65 := by
        have hb : 1 ≤ i.b ∧ i.b ≤ 8 := by simp [imBits] at hbits; omega
        have hm : 0 ≤ i.w * i.b ∧ i.w * i.b ≤ 512 := by
          constructor
          · exact Int.mul_nonneg (by omega) (by omega)
          · have := Int.mul_le_mul h2 hb.2 (by omega) (by omega); omega
        rw [← hrw, Int.tdiv_eq_ediv_of_nonneg (by omega)]; omega
      have hmul : 0 ≤ i.h * rw_ ∧ i.h * rw_ ≤ 4160 := by
        constructor
        · exact Int.mul_nonneg (by omega) (by omega)
        · have := Int.mul_le_mul h4 hrb.2 (by omega) (by omega); omega
      have e5 : IntKind.i64.wrap (i.h * rw_) = i.h * rw_ := IntWalk.i64_in _ (by omega)
      rw [hrw] at HRW
      unfold imv imC at HRW
      clear h1 h2 h3 h4 hrw hrb hmul
      go_wp2_with fail
      refine wp_region_grown (by kernel_rfl) (by kernel_rfl) ?_
      repeat (go_big_quiet_step (first
        | (go_at_call 82; with_reducible exact Calls.grown (HRW.out _))
        | fail))
      refine wpQuiet_nil ?_
      rintro _ ⟨y, rfl⟩
      obtain ⟨w4, hb4⟩ := y
      simp only
      have B4 := btr hB0 hb4
      go_wp2_with fail
      try rw [Exit.noGoto_ret]
      go_ret
      exact ⟨ret_bool HQ2.out.symm, B4⟩
    · have b1 : (i.b == 1) = false := by simp; omega
      have b2 : (i.b == 2) = false := by simp; omega
      have b4 : (i.b == 4) = true := by simp; omega
      clear hb1
      have hsz0 : Hid (imSz i = (decide (1 ≤ i.w) && decide (i.w ≤ 64) && decide (1 ≤ i.h) && decide (i.h ≤ 64))) := Lib.hid rfl
      by_cases h1 : 1 ≤ i.w
      case neg =>
        have d1 : decide (1 ≤ i.w) = false := decide_eq_false h1
        have HQ2 : Hid (q = false) := Lib.hid (by rw [← HQ.out]; unfold imB; rw [hsz0.out, d1]; simp)
        clear h1
        go_wp2_with fail
        refine wp_region_grown (by kernel_rfl) (by kernel_rfl) ?_
        repeat (go_big_quiet_step (fail))
        refine wpQuiet_nil ?_
        rintro _ ⟨y, rfl⟩
        obtain ⟨w4, hb4⟩ := y
        simp only
        have B4 := btr hB0 hb4
        go_wp2_with fail
        try rw [Exit.noGoto_ret]
        go_ret
        exact ⟨ret_bool HQ2.out.symm, B4⟩
      have d1 : decide (1 ≤ i.w) = true := decide_eq_true h1
      by_cases h2 : i.w ≤ 64
      case neg =>
        have d2 : decide (i.w ≤ 64) = false := decide_eq_false h2
        have HQ2 : Hid (q = false) := Lib.hid (by rw [← HQ.out]; unfold imB; rw [hsz0.out, d2]; simp)
        clear h1 h2
        go_wp2_with fail
        refine wp_region_grown (by kernel_rfl) (by kernel_rfl) ?_
        repeat (go_big_quiet_step (fail))
        refine wpQuiet_nil ?_
        rintro _ ⟨y, rfl⟩
        obtain ⟨w4, hb4⟩ := y
        simp only
        have B4 := btr hB0 hb4
        go_wp2_with fail
        try rw [Exit.noGoto_ret]
        go_ret
        exact ⟨ret_bool HQ2.out.symm, B4⟩
      have d2 : decide (i.w ≤ 64) = true := decide_eq_true h2
      by_cases h3 : 1 ≤ i.h
      case neg =>
        have d3 : decide (1 ≤ i.h) = false := decide_eq_false h3
        have HQ2 : Hid (q = false) := Lib.hid (by rw [← HQ.out]; unfold imB; rw [hsz0.out, d3]; simp)
        clear h1 h2 h3
        go_wp2_with fail
        refine wp_region_grown (by kernel_rfl) (by kernel_rfl) ?_
        repeat (go_big_quiet_step (fail))
        refine wpQuiet_nil ?_
        rintro _ ⟨y, rfl⟩
        obtain ⟨w4, hb4⟩ := y
        simp only
        have B4 := btr hB0 hb4
        go_wp2_with fail
        try rw [Exit.noGoto_ret]
        go_ret
        exact ⟨ret_bool HQ2.out.symm, B4⟩
      have d3 : decide (1 ≤ i.h) = true := decide_eq_true h3
      by_cases h4 : i.h ≤ 64
      case neg =>
        have d4 : decide (i.h ≤ 64) = false := decide_eq_false h4
        have HQ2 : Hid (q = false) := Lib.hid (by rw [← HQ.out]; unfold imB; rw [hsz0.out, d4]; simp)
        clear h1 h2 h3 h4
        go_wp2_with fail
        refine wp_region_grown (by kernel_rfl) (by kernel_rfl) ?_
        repeat (go_big_quiet_step (fail))
        refine wpQuiet_nil ?_
        rintro _ ⟨y, rfl⟩
        obtain ⟨w4, hb4⟩ := y
        simp only
        have B4 := btr hB0 hb4
        go_wp2_with fail
        try rw [Exit.noGoto_ret]
        go_ret
        exact ⟨ret_bool HQ2.out.symm, B4⟩
      have d4 : decide (i.h ≤ 64) = true := decide_eq_true h4
      have hsz : imSz i = true := by rw [hsz0.out, d1, d2, d3, d4]; rfl
      have HRW := Lib.hid fun W => imRow_any i W hsz hbits
      obtain ⟨rw_, hrw⟩ : ∃ r, (i.w * i.b + 7).tdiv 8 = r := ⟨_, rfl⟩
      have HQ2 : Hid (q = ((i.d.size : Int) == i.h * rw_)) := Lib.hid (by rw [← HQ.out, ← hrw]; unfold imB; rw [hsz, hbits]; simp)
      have hrb : 0 ≤ rw_ ∧ rw_ ≤ 65 := by
        have hb : 1 ≤ i.b ∧ i.b ≤ 8 := by simp [imBits] at hbits; omega
        have hm : 0 ≤ i.w * i.b ∧ i.w * i.b ≤ 512 := by
          constructor
          · exact Int.mul_nonneg (by omega) (by omega)
          · have := Int.mul_le_mul h2 hb.2 (by omega) (by omega); omega
        rw [← hrw, Int.tdiv_eq_ediv_of_nonneg (by omega)]; omega
      have hmul : 0 ≤ i.h * rw_ ∧ i.h * rw_ ≤ 4160 := by
        constructor
        · exact Int.mul_nonneg (by omega) (by omega)
        · have := Int.mul_le_mul h4 hrb.2 (by omega) (by omega); omega
      have e5 : IntKind.i64.wrap (i.h * rw_) = i.h * rw_ := IntWalk.i64_in _ (by omega)
      rw [hrw] at HRW
      unfold imv imC at HRW
      clear h1 h2 h3 h4 hrw hrb hmul
      go_wp2_with fail
      refine wp_region_grown (by kernel_rfl) (by kernel_rfl) ?_
      repeat (go_big_quiet_step (first
        | (go_at_call 82; with_reducible exact Calls.grown (HRW.out _))
        | fail))
      refine wpQuiet_nil ?_
      rintro _ ⟨y, rfl⟩
      obtain ⟨w4, hb4⟩ := y
      simp only
      have B4 := btr hB0 hb4
      go_wp2_with fail
      try rw [Exit.noGoto_ret]
      go_ret
      exact ⟨ret_bool HQ2.out.symm, B4⟩
    · have b1 : (i.b == 1) = false := by simp; omega
      have b2 : (i.b == 2) = false := by simp; omega
      have b4 : (i.b == 4) = false := by simp; omega
      have b8 : (i.b == 8) = true := by simp; omega
      clear hb1
      have hsz0 : Hid (imSz i = (decide (1 ≤ i.w) && decide (i.w ≤ 64) && decide (1 ≤ i.h) && decide (i.h ≤ 64))) := Lib.hid rfl
      by_cases h1 : 1 ≤ i.w
      case neg =>
        have d1 : decide (1 ≤ i.w) = false := decide_eq_false h1
        have HQ2 : Hid (q = false) := Lib.hid (by rw [← HQ.out]; unfold imB; rw [hsz0.out, d1]; simp)
        clear h1
        go_wp2_with fail
        refine wp_region_grown (by kernel_rfl) (by kernel_rfl) ?_
        repeat (go_big_quiet_step (fail))
        refine wpQuiet_nil ?_
        rintro _ ⟨y, rfl⟩
        obtain ⟨w4, hb4⟩ := y
        simp only
        have B4 := btr hB0 hb4
        go_wp2_with fail
        try rw [Exit.noGoto_ret]
        go_ret
        exact ⟨ret_bool HQ2.out.symm, B4⟩
      have d1 : decide (1 ≤ i.w) = true := decide_eq_true h1
      by_cases h2 : i.w ≤ 64
      case neg =>
        have d2 : decide (i.w ≤ 64) = false := decide_eq_false h2
        have HQ2 : Hid (q = false) := Lib.hid (by rw [← HQ.out]; unfold imB; rw [hsz0.out, d2]; simp)
        clear h1 h2
        go_wp2_with fail
        refine wp_region_grown (by kernel_rfl) (by kernel_rfl) ?_
        repeat (go_big_quiet_step (fail))
        refine wpQuiet_nil ?_
        rintro _ ⟨y, rfl⟩
        obtain ⟨w4, hb4⟩ := y
        simp only
        have B4 := btr hB0 hb4
        go_wp2_with fail
        try rw [Exit.noGoto_ret]
        go_ret
        exact ⟨ret_bool HQ2.out.symm, B4⟩
      have d2 : decide (i.w ≤ 64) = true := decide_eq_true h2
      by_cases h3 : 1 ≤ i.h
      case neg =>
        have d3 : decide (1 ≤ i.h) = false := decide_eq_false h3
        have HQ2 : Hid (q = false) := Lib.hid (by rw [← HQ.out]; unfold imB; rw [hsz0.out, d3]; simp)
        clear h1 h2 h3
        go_wp2_with fail
        refine wp_region_grown (by kernel_rfl) (by kernel_rfl) ?_
        repeat (go_big_quiet_step (fail))
        refine wpQuiet_nil ?_
        rintro _ ⟨y, rfl⟩
        obtain ⟨w4, hb4⟩ := y
        simp only
        have B4 := btr hB0 hb4
        go_wp2_with fail
        try rw [Exit.noGoto_ret]
        go_ret
        exact ⟨ret_bool HQ2.out.symm, B4⟩
      have d3 : decide (1 ≤ i.h) = true := decide_eq_true h3
      by_cases h4 : i.h ≤ 64
      case neg =>
        have d4 : decide (i.h ≤ 64) = false := decide_eq_false h4
        have HQ2 : Hid (q = false) := Lib.hid (by rw [← HQ.out]; unfold imB; rw [hsz0.out, d4]; simp)
        clear h1 h2 h3 h4
        go_wp2_with fail
        refine wp_region_grown (by kernel_rfl) (by kernel_rfl) ?_
        repeat (go_big_quiet_step (fail))
        refine wpQuiet_nil ?_
        rintro _ ⟨y, rfl⟩
        obtain ⟨w4, hb4⟩ := y
        simp only
        have B4 := btr hB0 hb4
        go_wp2_with fail
        try rw [Exit.noGoto_ret]
        go_ret
        exact ⟨ret_bool HQ2.out.symm, B4⟩
      have d4 : decide (i.h ≤ 64) = true := decide_eq_true h4
      have hsz : imSz i = true := by rw [hsz0.out, d1, d2, d3, d4]; rfl
      have HRW := Lib.hid fun W => imRow_any i W hsz hbits
      obtain ⟨rw_, hrw⟩ : ∃ r, (i.w * i.b + 7).tdiv 8 = r := ⟨_, rfl⟩
      have HQ2 : Hid (q = ((i.d.size : Int) == i.h * rw_)) := Lib.hid (by rw [← HQ.out, ← hrw]; unfold imB; rw [hsz, hbits]; simp)
      have hrb : 0 ≤ rw_ ∧ rw_ ≤ 65 := by
        have hb : 1 ≤ i.b ∧ i.b ≤ 8 := by simp [imBits] at hbits; omega
        have hm : 0 ≤ i.w * i.b ∧ i.w * i.b ≤ 512 := by
          constructor
          · exact Int.mul_nonneg (by omega) (by omega)
          · have := Int.mul_le_mul h2 hb.2 (by omega) (by omega); omega
        rw [← hrw, Int.tdiv_eq_ediv_of_nonneg (by omega)]; omega
      have hmul : 0 ≤ i.h * rw_ ∧ i.h * rw_ ≤ 4160 := by
        constructor
        · exact Int.mul_nonneg (by omega) (by omega)
        · have := Int.mul_le_mul h4 hrb.2 (by omega) (by omega); omega
      have e5 : IntKind.i64.wrap (i.h * rw_) = i.h * rw_ := IntWalk.i64_in _ (by omega)
      rw [hrw] at HRW
      unfold imv imC at HRW
      clear h1 h2 h3 h4 hrw hrb hmul
      go_wp2_with fail
      refine wp_region_grown (by kernel_rfl) (by kernel_rfl) ?_
      repeat (go_big_quiet_step (first
        | (go_at_call 82; with_reducible exact Calls.grown (HRW.out _))
        | fail))
      refine wpQuiet_nil ?_
      rintro _ ⟨y, rfl⟩
      obtain ⟨w4, hb4⟩ := y
      simp only
      have B4 := btr hB0 hb4
      go_wp2_with fail
      try rw [Exit.noGoto_ret]
      go_ret
      exact ⟨ret_bool HQ2.out.symm, B4⟩
  · have hbits : imBits i = false := by simp [imBits]; omega
    have b1 : (i.b == 1) = false := by simp; omega
    have b2 : (i.b == 2) = false := by simp; omega
    have b4 : (i.b == 4) = false := by simp; omega
    have b8 : (i.b == 8) = false := by simp; omega
    have HQ2 : Hid (q = false) := Lib.hid (by rw [← HQ.out]; unfold imB; rw [hbits]; simp)
    go_wp2_with fail
    go_ret
    exact ⟨ret_bool HQ2.out.symm, hB0⟩
end Go.Proofs.YtdfkbbcoolgfiaaGreat
