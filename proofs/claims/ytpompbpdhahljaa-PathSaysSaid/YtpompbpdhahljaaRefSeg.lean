/- tympanref25.Seg, Flip. -/
import Derived.Test.YtpompbpdhahljaaRef
namespace Go.Proofs.Ytpompbpdhahljaa
open Go.RowKit

theorem ref_Seg_bow (x0 y0 cx cy x1 y1 : Int) (w : World) :
    Calls Try.prog 61 #[.agg #[.int .i64 x0, .int .i64 y0, .bool true, .int .i64 cx, .int .i64 cy, .int .i64 x1, .int .i64 y1]] w
      fun e w' => e = .returned (.agg #[.int .i64 3, .int .i64 x1, .int .i64 y1, .int .i64 cx, .int .i64 cy]) ∧ Below w.heap.size w w' := by
  go_enter Try.func61, Try.ntmps61
  go_wp2
  refine bodyPost_ret (v := .agg #[.int .i64 3, .int .i64 x1, .int .i64 y1, .int .i64 cx, .int .i64 cy]) (by simp [results, Try.results61, go_sem]) rfl ⟨rfl, ?_⟩
  go_light
  repeat (first | exact bal (bal (Below.refl _ _) _) _ | refine bset ?_ (by simp) _)

theorem ref_Seg_line (x0 y0 cx cy x1 y1 : Int) (w : World) :
    Calls Try.prog 61 #[.agg #[.int .i64 x0, .int .i64 y0, .bool false, .int .i64 cx, .int .i64 cy, .int .i64 x1, .int .i64 y1]] w
      fun e w' => e = .returned (.agg #[.int .i64 2, .int .i64 x1, .int .i64 y1, .int .i64 0, .int .i64 0]) ∧ Below w.heap.size w w' := by
  go_enter Try.func61, Try.ntmps61
  go_wp2
  refine bodyPost_ret (v := .agg #[.int .i64 2, .int .i64 x1, .int .i64 y1, .int .i64 0, .int .i64 0]) (by simp [results, Try.results61, go_sem]) rfl ⟨rfl, ?_⟩
  go_light
  repeat (first | exact bal (bal (Below.refl _ _) _) _ | refine bset ?_ (by simp) _)

theorem ref_Flip_any (x0 y0 cx cy x1 y1 : Int) (bent : Bool) (w : World) :
    Calls Try.prog 72 #[.agg #[.int .i64 x0, .int .i64 y0, .bool bent, .int .i64 cx, .int .i64 cy, .int .i64 x1, .int .i64 y1]] w
      fun e w' => e = .returned (.agg #[.int .i64 x1, .int .i64 y1, .bool bent, .int .i64 cx, .int .i64 cy, .int .i64 x0, .int .i64 y0]) ∧ Below w.heap.size w w' := by
  go_enter Try.func72, Try.ntmps72
  go_wp2
  refine bodyPost_ret (v := .agg #[.int .i64 x1, .int .i64 y1, .bool bent, .int .i64 cx, .int .i64 cy, .int .i64 x0, .int .i64 y0]) (by simp [results, Try.results72, go_sem]) rfl ⟨rfl, ?_⟩
  go_light
  repeat (first | exact bal (bal (Below.refl _ _) _) _ | refine bset ?_ (by simp) _)

end Go.Proofs.Ytpompbpdhahljaa
