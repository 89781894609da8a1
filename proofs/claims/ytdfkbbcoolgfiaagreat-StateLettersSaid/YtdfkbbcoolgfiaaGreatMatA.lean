/- mat: Aim, Move. -/
import Derived.Test.YtdfkbbcoolgfiaaGreatMat4
import Derived.Test.YtdfkbbcoolgfiaaGreatFontP
import Derived.Test.YtdfkbbcoolgfiaaGreatMCls
import Derived.Test.YtdfkbbcoolgfiaaGreatMMul
namespace Go.Proofs.YtdfkbbcoolgfiaaGreat
open Go.RowKit Go.BigFrame

set_option maxRecDepth 100000 in
set_option maxHeartbeats 1000000 in
theorem matNear_fix (x y : Int) (w : World) : Calls Tryz.prog 134 #[.int .i64 x, .int .i64 y, .int .i64 1073741823] w fun e w' => e = .returned (vP (nearP x y 1073741823)) ∧ w = w' := by
  obtain ⟨R, hR⟩ : ∃ R, nearP x y 1073741823 = R := ⟨_, rfl⟩
  have HR := Lib.hid hR
  rw [hR]
  clear hR
  go_enter Tryz.func134, Tryz.ntmps134
  go_wp2
  all_goals
    go_ret3
    refine ⟨?_, rfl⟩
    rw [← HR.out]
    unfold nearP
    split
    · first | rfl | (exfalso; simp_all; done) | (exfalso; simp_all; omega) | (exfalso; omega)
    · first | rfl | (exfalso; simp_all; done) | (exfalso; simp_all; omega) | (exfalso; omega)
set_option maxRecDepth 100000 in
set_option maxHeartbeats 2000000 in
theorem matAim_any (m : Mt) (x y : Int) (w : World) : Calls Tryz.prog 98 #[mtv m, .int .i64 x, .int .i64 y] w fun e w' => e = .returned (vP (aimM m x y)) ∧ Below w.heap.size w w' := by
  obtain ⟨w0, hw0⟩ : ∃ w0 : World, w0 = w.alloc (.cells #[.int .i64 m.a, .int .i64 m.b, .int .i64 m.c, .int .i64 m.d, .int .i64 m.e, .int .i64 m.f] 23) := ⟨_, rfl⟩
  have hB0 : Below w.heap.size w w0 := by rw [hw0]; exact bal (Below.refl _ _) _
  have hA : BC w0 w.heap.size (mtC m) := by rw [hw0]; exact BC.new (mtC m) 23 rfl
  have HG := Lib.hid fun W => matGood_any m x y W
  unfold mtv at HG ⊢
  obtain ⟨q, hq⟩ : ∃ q, (mtB m && fixB x && fixB y) = q := ⟨_, rfl⟩
  obtain ⟨R, hR⟩ : ∃ R, aimM m x y = R := ⟨_, rfl⟩
  have HR := Lib.hid hR
  have HQ := Lib.hid hq
  rw [hq] at HG
  rw [hR]
  clear hq hR
  have a0 := hA.c 0 _ rfl
  have a1 := hA.c 1 _ rfl
  have a2 := hA.c 2 _ rfl
  have a3 := hA.c 3 _ rfl
  have a4 := hA.c 4 _ rfl
  have a5 := hA.c 5 _ rfl
  go_enter Tryz.func98, Tryz.ntmps98
  go_wp2_with fail
  rw [← hw0]
  clear hw0 a0 a1 a2 a3 a4 a5
  refine (HG.out _).mono ?_; rintro e w1 ⟨rfl, hb1⟩
  have B1 := btr hB0 hb1
  replace hA := hA.below hb1
  clear hb1
  cases q
  · have HR2 := Lib.hid (show R = (0, 0, 1) by rw [← HR.out]; unfold aimM; rw [HQ.out]; rfl)
    go_wp2_with fail
    go_ret3
    refine ⟨?_, B1⟩
    rw [HR2.out]
    rfl
  · have HR2 := Lib.hid (show R = nearP _ _ 1073741823 by rw [← HR.out]; unfold aimM; rw [HQ.out]; rfl)
    obtain ⟨⟨hm, hx⟩, hy⟩ : (mtB m = true ∧ fixB x = true) ∧ fixB y = true := by simpa using HQ.out
    have hf := mtB_fix hm
    have p1 := mul_fix hf.1 hx
    have p2 := mul_fix hf.2.2.1 hy
    have p3 := mul_fix hf.2.1 hx
    have p4 := mul_fix hf.2.2.2.1 hy
    have e1 : IntKind.i64.wrap (m.a * x) = m.a * x := IntWalk.i64_in _ (by omega)
    have e2 : IntKind.i64.wrap (m.c * y) = m.c * y := IntWalk.i64_in _ (by omega)
    have e3 : IntKind.i64.wrap (m.b * x) = m.b * x := IntWalk.i64_in _ (by omega)
    have e4 : IntKind.i64.wrap (m.d * y) = m.d * y := IntWalk.i64_in _ (by omega)
    have e5 : IntKind.i64.wrap (m.a * x + m.c * y) = m.a * x + m.c * y := IntWalk.i64_in _ (by omega)
    have e6 : IntKind.i64.wrap (m.b * x + m.d * y) = m.b * x + m.d * y := IntWalk.i64_in _ (by omega)
    have H1 := Lib.hid fun W => round16_any (m.a * x + m.c * y) W (by omega)
    have H2 := Lib.hid fun W => round16_any (m.b * x + m.d * y) W (by omega)
    have H3 := Lib.hid fun W => matNear_fix (rndM 65536 32768 ((m.a * x + m.c * y))) (rndM 65536 32768 ((m.b * x + m.d * y))) W
    unfold vP at H3
    have a0 := hA.c 0 _ rfl
    have a1 := hA.c 1 _ rfl
    have a2 := hA.c 2 _ rfl
    have a3 := hA.c 3 _ rfl
    have a4 := hA.c 4 _ rfl
    have a5 := hA.c 5 _ rfl
    clear p1 p2 p3 p4 hm hx hy hf HQ
    go_wp2_with fail
    go_quiet (first
      | (go_at_call 85; with_reducible exact quiet_left (H1.out _))
      | (go_at_call 85; with_reducible exact quiet_left (H2.out _))
      | (go_at_call 134; with_reducible exact quiet_left (H3.out _))
      | fail)
    go_wp2_with fail
    go_ret3
    refine ⟨?_, btr B1 (bdrewN (Below.refl _ _) _)⟩
    rw [HR2.out]
    rfl
set_option maxRecDepth 100000 in
set_option maxHeartbeats 1000000 in
theorem matMove_any (x y : Int) (w : World) (hx : fixB x = true) (hy : fixB y = true) : Calls Tryz.prog 138 #[.int .i64 x, .int .i64 y] w fun e w' => e = .returned (.tuple #[mtv (moveM x y), .int .i64 0]) ∧ Below w.heap.size w w' := by
  have HX := Lib.hid fun W => fix_any x W
  have HY := Lib.hid fun W => fix_any y W
  rw [hx] at HX
  rw [hy] at HY
  clear hx hy
  obtain ⟨w0, hw0⟩ : ∃ w0 : World, w0 = w.alloc (.cells (mtC zeroM).toArray 23) := ⟨_, rfl⟩
  have hB0 : Below w.heap.size w w0 := by rw [hw0]; exact bal (Below.refl _ _) _
  have hZ : BC w0 w.heap.size (mtC zeroM) := by rw [hw0]; exact BC.new (mtC zeroM) 23 rfl
  have hz6 : (mtC zeroM).toArray = #[.int .i64 0, .int .i64 0, .int .i64 0, .int .i64 0, .int .i64 0, .int .i64 0] := rfl
  rw [hz6] at hw0
  have hF := hZ.putAll (mtC (moveM x y)) rfl
  have hFB := below_setCells (show w.heap.size ≤ w.heap.size by omega) (mtC (moveM x y)) 0 _ hB0
  clear hz6
  go_enter Tryz.func138, Tryz.ntmps138
  go_upto_region 1 with (fail)
  rw [← hw0]
  clear hw0
  go_wp2_with fail
  refine (HX.out _).mono ?_; rintro e w' ⟨rfl, rfl⟩
  go_wp2_with fail
  refine (HY.out _).mono ?_; rintro e w' ⟨rfl, rfl⟩
  go_wp2_with (first
    | (refine wpList_store_rec rfl _ _ _ rfl w.heap.size (mtC (moveM x y)) _ rfl rfl 6 matT2 hZ rfl rfl (mtC_oneR _) ?_)
    | fail)
  refine bodyPost_ret (result_rec rfl rfl rfl matT2 hF rfl) rfl ?_
  exact ⟨rfl, hFB⟩
end Go.Proofs.YtdfkbbcoolgfiaaGreat
