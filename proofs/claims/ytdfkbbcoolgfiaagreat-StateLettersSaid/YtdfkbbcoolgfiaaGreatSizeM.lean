/- mat.Size, the reference's Size. -/
import Derived.Test.YtdfkbbcoolgfiaaGreatMatA
namespace Go.Proofs.YtdfkbbcoolgfiaaGreat
open Go.RowKit Go.BigFrame

def sizeM (x y : Int) : Mt := ⟨x, 0, 0, y, 0, 0⟩
set_option maxRecDepth 100000 in
set_option maxHeartbeats 1000000 in
theorem matSize_any (x y : Int) (w : World) (hx : fixB x = true) (hy : fixB y = true) : Calls Tryz.prog 48 #[.int .i64 x, .int .i64 y] w fun e w' => e = .returned (.tuple #[mtv (sizeM x y), .int .i64 0]) ∧ Below w.heap.size w w' := by
  have HX := Lib.hid fun W => fix_any x W
  have HY := Lib.hid fun W => fix_any y W
  rw [hx] at HX
  rw [hy] at HY
  clear hx hy
  obtain ⟨w0, hw0⟩ : ∃ w0 : World, w0 = w.alloc (.cells (mtC zeroM).toArray 23) := ⟨_, rfl⟩
  have hB0 : Below w.heap.size w w0 := by rw [hw0]; exact bal (Below.refl _ _) _
  have hZ : BC w0 w.heap.size (mtC zeroM) := by rw [hw0]; exact BC.new (mtC zeroM) 23 rfl
  have hz6 : (mtC zeroM).toArray = #[.int .i64 0, .int .i64 0, .int .i64 0, .int .i64 0, .int .i64 0, .int .i64 0] := rfl
  rw [hz6] at hw0
  have hF := hZ.putAll (mtC (sizeM x y)) rfl
  have hFB := below_setCells (show w.heap.size ≤ w.heap.size by omega) (mtC (sizeM x y)) 0 _ hB0
  clear hz6
  go_enter Tryz.func48, Tryz.ntmps48
  go_upto_region 1 with (fail)
  rw [← hw0]
  clear hw0
  go_wp2_with fail
  refine (HX.out _).mono ?_; rintro e w' ⟨rfl, rfl⟩
  go_wp2_with fail
  refine (HY.out _).mono ?_; rintro e w' ⟨rfl, rfl⟩
  go_wp2_with (first
    | (refine wpList_store_rec rfl _ _ _ rfl w.heap.size (mtC (sizeM x y)) _ rfl rfl 6 matT2 hZ rfl rfl (mtC_oneR _) ?_)
    | fail)
  refine bodyPost_ret (result_rec rfl rfl rfl matT2 hF rfl) rfl ?_
  exact ⟨rfl, hFB⟩
set_option maxRecDepth 100000 in
set_option maxHeartbeats 1000000 in
theorem rSize_any (x y : Int) (w : World) : Calls Tryz.prog 52 #[.int .i64 x, .int .i64 y] w fun e w' => e = .returned (mtv (sizeM x y)) ∧ Below w.heap.size w w' := by
  obtain ⟨w0, hw0⟩ : ∃ w0 : World, w0 = w.alloc (.cells (mtC zeroM).toArray 23) := ⟨_, rfl⟩
  have hB0 : Below w.heap.size w w0 := by rw [hw0]; exact bal (Below.refl _ _) _
  have hZ : BC w0 w.heap.size (mtC zeroM) := by rw [hw0]; exact BC.new (mtC zeroM) 23 rfl
  have hz6 : (mtC zeroM).toArray = #[.int .i64 0, .int .i64 0, .int .i64 0, .int .i64 0, .int .i64 0, .int .i64 0] := rfl
  rw [hz6] at hw0
  have hF := hZ.putAll (mtC (sizeM x y)) rfl
  have hFB := below_setCells (show w.heap.size ≤ w.heap.size by omega) (mtC (sizeM x y)) 0 _ hB0
  clear hz6
  go_enter Tryz.func52, Tryz.ntmps52
  go_upto_region 1 with (fail)
  rw [← hw0]
  clear hw0
  go_wp2_with (first
    | (refine wpList_store_rec rfl _ _ _ rfl w.heap.size (mtC (sizeM x y)) _ rfl rfl 6 matT2 hZ rfl rfl (mtC_oneR _) ?_)
    | fail)
  refine bodyPost_ret (result_rec1 rfl rfl matT2 hF rfl) rfl ?_
  exact ⟨rfl, hFB⟩
end Go.Proofs.YtdfkbbcoolgfiaaGreat
