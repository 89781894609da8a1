/- The reference's answers on one piece, one edge: IsCoord, coords, piece, IsEdge. -/
import Derived.Test.YtaphmonpdnbiiaaProg
import Derived.Test.YtaphmonpdnbiiaaAllP
namespace Go.Proofs.Ytaphmonpdnbiiaa
open Go.RowKit

theorem IsCoord_any (v : Int) (w : World) : Calls Try.prog 60 #[.int .i64 v] w fun e w' => e = .returned (.bool (co v)) ∧ w = w' := by
  go_enter Try.func60, Try.ntmps60
  go_wp2
  all_goals (go_ret; refine ⟨ret_bool ?_, rfl⟩; go_light; simp [co]; try omega)

theorem coords_any (x y : Int) (w : World) : Calls Try.prog 53 #[.int .i64 x, .int .i64 y] w fun e w' => e = .returned (.bool (co x && co y)) ∧ w = w' := by
  go_enter Try.func53, Try.ntmps53
  go_wp2_with (go_at_call 60; refine (IsCoord_any _ _).mono ?_; rintro e w' ⟨rfl, rfl⟩)
  all_goals (go_ret; refine ⟨ret_bool ?_, rfl⟩; go_light; simp_all)

set_option maxHeartbeats 400000 in
theorem piece_any (k x y cx cy : Int) (w : World) :
    Calls Try.prog 47 #[.agg #[.int .i64 k, .int .i64 x, .int .i64 y, .int .i64 cx, .int .i64 cy]] w fun e w' => e = .returned (.bool (pieceB ⟨k, x, y, cx, cy⟩)) ∧ Below w.heap.size w w' := by
  go_enter Try.func47, Try.ntmps47
  go_wp2_with (go_at_call 53; refine (coords_any _ _ _).mono ?_; rintro e w' ⟨rfl, rfl⟩)
  all_goals (go_ret; refine ⟨ret_bool ?_, by first | exact bal (Below.refl _ _) _ | exact bal (bal (Below.refl _ _) _) _⟩; go_light; simp_all [pieceB])

end Go.Proofs.Ytaphmonpdnbiiaa
