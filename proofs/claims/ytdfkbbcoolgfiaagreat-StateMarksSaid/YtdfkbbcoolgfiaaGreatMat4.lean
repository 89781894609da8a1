/- mat: good, near, Point, Vector. -/
import Derived.Test.YtdfkbbcoolgfiaaGreatMMat
namespace Go.Proofs.YtdfkbbcoolgfiaaGreat
open Go.RowKit Go.BigFrame

def nearP (x y k : Int) : Int × Int × Int := if x < -k ∨ x > k ∨ y < -k ∨ y > k then (0, 0, 2) else (x, y, 0)
def pointM (m : Mt) (x y : Int) : Int × Int × Int := if mtB m && fixB x && fixB y then nearP (rndM 4294967296 2147483648 (m.a * x + m.c * y + m.e * 65536)) (rndM 4294967296 2147483648 (m.b * x + m.d * y + m.f * 65536)) 8191 else (0, 0, 1)
def vectorM (m : Mt) (x y : Int) : Int × Int × Int := if mtB m && fixB x && fixB y then nearP (rndM 4294967296 2147483648 (m.a * x + m.c * y)) (rndM 4294967296 2147483648 (m.b * x + m.d * y)) 16382 else (0, 0, 1)
def vP (p : Int × Int × Int) : Value := .tuple #[.int .i64 p.1, .int .i64 p.2.1, .int .i64 p.2.2]
set_option maxRecDepth 100000 in
set_option maxHeartbeats 1000000 in
theorem matNear_any (x y k : Int) (w : World) (hk : 0 ≤ k ∧ k ≤ 100000) : Calls Tryz.prog 134 #[.int .i64 x, .int .i64 y, .int .i64 k] w fun e w' => e = .returned (vP (nearP x y k)) ∧ w = w' := by
  obtain ⟨R, hR⟩ : ∃ R, nearP x y k = R := ⟨_, rfl⟩
  have HR := Lib.hid hR
  rw [hR]
  clear hR
  have wn : wrap64 (-k) = -k := IntWalk.wrap64_in _ (by omega)
  go_enter Tryz.func134, Tryz.ntmps134
  go_wp2
  all_goals
    go_ret3
    refine ⟨?_, rfl⟩
    rw [← HR.out]
    unfold nearP
    split
    · first | rfl | (exfalso; simp_all; done) | (exfalso; simp_all; omega) | (exfalso; omega)
    · first | rfl | (exfalso; simp_all; done) | (exfalso; simp_all; omega) | (exfalso; omega)
set_option maxRecDepth 100000 in
set_option maxHeartbeats 1000000 in
theorem matGood_any (m : Mt) (x y : Int) (w : World) : Calls Tryz.prog 140 #[mtv m, .int .i64 x, .int .i64 y] w fun e w' => e = .returned (.bool (mtB m && fixB x && fixB y)) ∧ Below w.heap.size w w' := by
  obtain ⟨w0, hw0⟩ : ∃ w0 : World, w0 = w.alloc (.cells #[.int .i64 m.a, .int .i64 m.b, .int .i64 m.c, .int .i64 m.d, .int .i64 m.e, .int .i64 m.f] 23) := ⟨_, rfl⟩
  have hB0 : Below w.heap.size w w0 := by rw [hw0]; exact bal (Below.refl _ _) _
  have hA : BC w0 w.heap.size (mtC m) := by rw [hw0]; exact BC.new (mtC m) 23 rfl
  have HM := Lib.hid fun W => matMay_any m W
  unfold mtv at HM ⊢
  obtain ⟨q, hq⟩ : ∃ q, mtB m = q := ⟨_, rfl⟩
  rw [hq] at HM ⊢
  clear hq
  have a0 := hA.c 0 _ rfl
  have a1 := hA.c 1 _ rfl
  have a2 := hA.c 2 _ rfl
  have a3 := hA.c 3 _ rfl
  have a4 := hA.c 4 _ rfl
  have a5 := hA.c 5 _ rfl
  go_enter Tryz.func140, Tryz.ntmps140
  go_wp2_with fail
  rw [← hw0]
  clear hw0 a0 a1 a2 a3 a4 a5
  refine (HM.out _).mono ?_; rintro e w1 ⟨rfl, hb1⟩
  have B1 := btr hB0 hb1
  clear hA hb1
  cases q
  · go_wp2_with fail
    go_ret
    exact ⟨ret_bool (by simp), B1⟩
  · go_wp2_with fail
    refine (fix_any x _).mono ?_; rintro e w' ⟨rfl, rfl⟩
    cases hx : fixB x
    · go_wp2_with fail
      go_ret
      exact ⟨ret_bool (by simp [hx]), B1⟩
    · go_wp2_with fail
      refine (fix_any y _).mono ?_; rintro e w' ⟨rfl, rfl⟩
      go_wp2_with fail
      go_ret
      exact ⟨ret_bool (by simp [hx]), B1⟩
set_option maxRecDepth 100000 in
set_option maxHeartbeats 2000000 in
theorem matPoint_any (m : Mt) (x y : Int) (w : World) : Calls Tryz.prog 139 #[mtv m, .int .i64 x, .int .i64 y] w fun e w' => e = .returned (vP (pointM m x y)) ∧ Below w.heap.size w w' := by
  obtain ⟨w0, hw0⟩ : ∃ w0 : World, w0 = w.alloc (.cells #[.int .i64 m.a, .int .i64 m.b, .int .i64 m.c, .int .i64 m.d, .int .i64 m.e, .int .i64 m.f] 23) := ⟨_, rfl⟩
  have hB0 : Below w.heap.size w w0 := by rw [hw0]; exact bal (Below.refl _ _) _
  have hA : BC w0 w.heap.size (mtC m) := by rw [hw0]; exact BC.new (mtC m) 23 rfl
  have HG := Lib.hid fun W => matGood_any m x y W
  unfold mtv at HG ⊢
  obtain ⟨q, hq⟩ : ∃ q, (mtB m && fixB x && fixB y) = q := ⟨_, rfl⟩
  obtain ⟨R, hR⟩ : ∃ R, pointM m x y = R := ⟨_, rfl⟩
  have HR := Lib.hid hR
  have HQ := Lib.hid hq
  rw [hq] at HG
  rw [hR]
  clear hq hR
  have a0 := hA.c 0 _ rfl
  have a1 := hA.c 1 _ rfl
  have a2 := hA.c 2 _ rfl
  have a3 := hA.c 3 _ rfl
  have a4 := hA.c 4 _ rfl
  have a5 := hA.c 5 _ rfl
  go_enter Tryz.func139, Tryz.ntmps139
  go_wp2_with fail
  rw [← hw0]
  clear hw0 a0 a1 a2 a3 a4 a5
  refine (HG.out _).mono ?_; rintro e w1 ⟨rfl, hb1⟩
  have B1 := btr hB0 hb1
  replace hA := hA.below hb1
  clear hb1
  cases q
  · have HR2 := Lib.hid (show R = (0, 0, 1) by rw [← HR.out]; unfold pointM; rw [HQ.out]; rfl)
    go_wp2_with fail
    go_ret3
    refine ⟨?_, B1⟩
    rw [HR2.out]
    rfl
  · have HR2 := Lib.hid (show R = nearP _ _ 8191 by rw [← HR.out]; unfold pointM; rw [HQ.out]; rfl)
    obtain ⟨⟨hm, hx⟩, hy⟩ : (mtB m = true ∧ fixB x = true) ∧ fixB y = true := by simpa using HQ.out
    have hf := mtB_fix hm
    have p1 := mul_fix hf.1 hx
    have p2 := mul_fix hf.2.2.1 hy
    have p3 := mul_fix hf.2.1 hx
    have p4 := mul_fix hf.2.2.2.1 hy
    have p5 := fixB_iff.1 hf.2.2.2.2.1
    have p6 := fixB_iff.1 hf.2.2.2.2.2
    have e1 : IntKind.i64.wrap (m.a * x) = m.a * x := IntWalk.i64_in _ (by omega)
    have e2 : IntKind.i64.wrap (m.c * y) = m.c * y := IntWalk.i64_in _ (by omega)
    have e3 : IntKind.i64.wrap (m.b * x) = m.b * x := IntWalk.i64_in _ (by omega)
    have e4 : IntKind.i64.wrap (m.d * y) = m.d * y := IntWalk.i64_in _ (by omega)
    have e5 : IntKind.i64.wrap (m.a * x + m.c * y) = m.a * x + m.c * y := IntWalk.i64_in _ (by omega)
    have e6 : IntKind.i64.wrap (m.b * x + m.d * y) = m.b * x + m.d * y := IntWalk.i64_in _ (by omega)
    have e7 : IntKind.i64.wrap (m.e * 65536) = m.e * 65536 := IntWalk.i64_in _ (by omega)
    have e8 : IntKind.i64.wrap (m.f * 65536) = m.f * 65536 := IntWalk.i64_in _ (by omega)
    have e9 : IntKind.i64.wrap (m.a * x + m.c * y + m.e * 65536) = m.a * x + m.c * y + m.e * 65536 := IntWalk.i64_in _ (by omega)
    have e10 : IntKind.i64.wrap (m.b * x + m.d * y + m.f * 65536) = m.b * x + m.d * y + m.f * 65536 := IntWalk.i64_in _ (by omega)
    have H1 := Lib.hid fun W => round32_any (m.a * x + m.c * y + m.e * 65536) W (by omega)
    have H2 := Lib.hid fun W => round32_any (m.b * x + m.d * y + m.f * 65536) W (by omega)
    have H3 := Lib.hid fun W => matNear_any (rndM 4294967296 2147483648 ((m.a * x + m.c * y + m.e * 65536))) (rndM 4294967296 2147483648 ((m.b * x + m.d * y + m.f * 65536))) 8191 W (by omega)
    unfold vP at H3
    have a0 := hA.c 0 _ rfl
    have a1 := hA.c 1 _ rfl
    have a2 := hA.c 2 _ rfl
    have a3 := hA.c 3 _ rfl
    have a4 := hA.c 4 _ rfl
    have a5 := hA.c 5 _ rfl
    clear p1 p2 p3 p4 p5 p6 hm hx hy hf HQ
    go_wp2_with fail
    go_quiet (first
      | (go_at_call 85; with_reducible exact quiet_left (H1.out _))
      | (go_at_call 85; with_reducible exact quiet_left (H2.out _))
      | (go_at_call 134; with_reducible exact quiet_left (H3.out _))
      | fail)
    go_wp2_with fail
    go_ret3
    refine ⟨?_, btr B1 (bdrewN (Below.refl _ _) _)⟩
    rw [HR2.out]
    rfl
set_option maxRecDepth 100000 in
set_option maxHeartbeats 2000000 in
theorem matVector_any (m : Mt) (x y : Int) (w : World) : Calls Tryz.prog 151 #[mtv m, .int .i64 x, .int .i64 y] w fun e w' => e = .returned (vP (vectorM m x y)) ∧ Below w.heap.size w w' := by
  obtain ⟨w0, hw0⟩ : ∃ w0 : World, w0 = w.alloc (.cells #[.int .i64 m.a, .int .i64 m.b, .int .i64 m.c, .int .i64 m.d, .int .i64 m.e, .int .i64 m.f] 23) := ⟨_, rfl⟩
  have hB0 : Below w.heap.size w w0 := by rw [hw0]; exact bal (Below.refl _ _) _
  have hA : BC w0 w.heap.size (mtC m) := by rw [hw0]; exact BC.new (mtC m) 23 rfl
  have HG := Lib.hid fun W => matGood_any m x y W
  unfold mtv at HG ⊢
  obtain ⟨q, hq⟩ : ∃ q, (mtB m && fixB x && fixB y) = q := ⟨_, rfl⟩
  obtain ⟨R, hR⟩ : ∃ R, vectorM m x y = R := ⟨_, rfl⟩
  have HR := Lib.hid hR
  have HQ := Lib.hid hq
  rw [hq] at HG
  rw [hR]
  clear hq hR
  have a0 := hA.c 0 _ rfl
  have a1 := hA.c 1 _ rfl
  have a2 := hA.c 2 _ rfl
  have a3 := hA.c 3 _ rfl
  have a4 := hA.c 4 _ rfl
  have a5 := hA.c 5 _ rfl
  go_enter Tryz.func151, Tryz.ntmps151
  go_wp2_with fail
  rw [← hw0]
  clear hw0 a0 a1 a2 a3 a4 a5
  refine (HG.out _).mono ?_; rintro e w1 ⟨rfl, hb1⟩
  have B1 := btr hB0 hb1
  replace hA := hA.below hb1
  clear hb1
  cases q
  · have HR2 := Lib.hid (show R = (0, 0, 1) by rw [← HR.out]; unfold vectorM; rw [HQ.out]; rfl)
    go_wp2_with fail
    go_ret3
    refine ⟨?_, B1⟩
    rw [HR2.out]
    rfl
  · have HR2 := Lib.hid (show R = nearP _ _ 16382 by rw [← HR.out]; unfold vectorM; rw [HQ.out]; rfl)
    obtain ⟨⟨hm, hx⟩, hy⟩ : (mtB m = true ∧ fixB x = true) ∧ fixB y = true := by simpa using HQ.out
    have hf := mtB_fix hm
    have p1 := mul_fix hf.1 hx
    have p2 := mul_fix hf.2.2.1 hy
    have p3 := mul_fix hf.2.1 hx
    have p4 := mul_fix hf.2.2.2.1 hy
    have p5 := fixB_iff.1 hf.2.2.2.2.1
    have p6 := fixB_iff.1 hf.2.2.2.2.2
    have e1 : IntKind.i64.wrap (m.a * x) = m.a * x := IntWalk.i64_in _ (by omega)
    have e2 : IntKind.i64.wrap (m.c * y) = m.c * y := IntWalk.i64_in _ (by omega)
    have e3 : IntKind.i64.wrap (m.b * x) = m.b * x := IntWalk.i64_in _ (by omega)
    have e4 : IntKind.i64.wrap (m.d * y) = m.d * y := IntWalk.i64_in _ (by omega)
    have e5 : IntKind.i64.wrap (m.a * x + m.c * y) = m.a * x + m.c * y := IntWalk.i64_in _ (by omega)
    have e6 : IntKind.i64.wrap (m.b * x + m.d * y) = m.b * x + m.d * y := IntWalk.i64_in _ (by omega)
    have e7 : IntKind.i64.wrap (m.e * 65536) = m.e * 65536 := IntWalk.i64_in _ (by omega)
    have e8 : IntKind.i64.wrap (m.f * 65536) = m.f * 65536 := IntWalk.i64_in _ (by omega)
    have e9 : IntKind.i64.wrap (m.a * x + m.c * y + m.e * 65536) = m.a * x + m.c * y + m.e * 65536 := IntWalk.i64_in _ (by omega)
    have e10 : IntKind.i64.wrap (m.b * x + m.d * y + m.f * 65536) = m.b * x + m.d * y + m.f * 65536 := IntWalk.i64_in _ (by omega)
    have H1 := Lib.hid fun W => round32_any (m.a * x + m.c * y) W (by omega)
    have H2 := Lib.hid fun W => round32_any (m.b * x + m.d * y) W (by omega)
    have H3 := Lib.hid fun W => matNear_any (rndM 4294967296 2147483648 ((m.a * x + m.c * y))) (rndM 4294967296 2147483648 ((m.b * x + m.d * y))) 16382 W (by omega)
    unfold vP at H3
    have a0 := hA.c 0 _ rfl
    have a1 := hA.c 1 _ rfl
    have a2 := hA.c 2 _ rfl
    have a3 := hA.c 3 _ rfl
    have a4 := hA.c 4 _ rfl
    have a5 := hA.c 5 _ rfl
    clear p1 p2 p3 p4 p5 p6 hm hx hy hf HQ
    go_wp2_with fail
    go_quiet (first
      | (go_at_call 85; with_reducible exact quiet_left (H1.out _))
      | (go_at_call 85; with_reducible exact quiet_left (H2.out _))
      | (go_at_call 134; with_reducible exact quiet_left (H3.out _))
      | fail)
    go_wp2_with fail
    go_ret3
    refine ⟨?_, btr B1 (bdrewN (Below.refl _ _) _)⟩
    rw [HR2.out]
    rfl
end Go.Proofs.YtdfkbbcoolgfiaaGreat
