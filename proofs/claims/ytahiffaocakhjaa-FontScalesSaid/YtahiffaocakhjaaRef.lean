/- The reference's answers on one piece, one edge: IsCoord, coords, piece, IsEdge. -/
import Derived.Test.YtahiffaocakhjaaProg
import Derived.Test.YtahiffaocakhjaaAllP
namespace Go.Proofs.Ytahiffaocakhjaa
open Go.RowKit

theorem IsCoord_any (v : Int) (w : World) : Calls Try.prog 80 #[.int .i64 v] w fun e w' => e = .returned (.bool (co v)) ∧ w = w' := by
  go_enter Try.func80, Try.ntmps80
  go_wp2
  all_goals (go_ret; refine ⟨ret_bool ?_, rfl⟩; go_light; simp [co]; try omega)

theorem coords_any (x y : Int) (w : World) : Calls Try.prog 67 #[.int .i64 x, .int .i64 y] w fun e w' => e = .returned (.bool (co x && co y)) ∧ w = w' := by
  go_enter Try.func67, Try.ntmps67
  go_wp2_with (go_at_call 80; refine (IsCoord_any _ _).mono ?_; rintro e w' ⟨rfl, rfl⟩)
  all_goals (go_ret; refine ⟨ret_bool ?_, rfl⟩; go_light; simp_all)

set_option maxHeartbeats 400000 in
theorem piece_any (k x y cx cy : Int) (w : World) :
    Calls Try.prog 62 #[.agg #[.int .i64 k, .int .i64 x, .int .i64 y, .int .i64 cx, .int .i64 cy]] w fun e w' => e = .returned (.bool (pieceB ⟨k, x, y, cx, cy⟩)) ∧ Below w.heap.size w w' := by
  go_enter Try.func62, Try.ntmps62
  go_wp2_with (go_at_call 67; refine (coords_any _ _ _).mono ?_; rintro e w' ⟨rfl, rfl⟩)
  all_goals (go_ret; refine ⟨ret_bool ?_, by first | exact bal (Below.refl _ _) _ | exact bal (bal (Below.refl _ _) _) _⟩; go_light; simp_all [pieceB])

end Go.Proofs.Ytahiffaocakhjaa
