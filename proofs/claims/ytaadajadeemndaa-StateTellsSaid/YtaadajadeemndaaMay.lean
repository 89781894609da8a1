/- bow.May, path.right, path.May. -/
import Derived.Test.YtaadajadeemndaaNear
import Derived.Deep.QuietTactic
import Derived.BigQuiet
import Derived.Deep.Light
namespace Go.Proofs.Ytaadajadeemndaa
open Go.RowKit

set_option maxHeartbeats 400000 in
theorem path_right_any (k x y cx cy last : Int) (w : World) :
    Calls Try.prog 109 #[.agg #[.int .i64 k, .int .i64 x, .int .i64 y, .int .i64 cx, .int .i64 cy], .int .i64 last] w
      fun e w' => e = .returned (.bool (rightB ⟨k, x, y, cx, cy⟩ last)) ∧ Below w.heap.size w w' := by
  go_enter Try.func109, Try.ntmps109
  go_wp2_with (go_at_call 86; refine (path_near_any _ _ _ [x, y, cx, cy] _ (by omega) ?_).mono ?_; rotate_left; rintro e w' ⟨rfl, rfl⟩)
  all_goals first
    | (go_ret; refine ⟨ret_bool ?_, bal (bal (Below.refl _ _) _) _⟩; go_light; simp_all [rightB])
    | (exact sl_new (ints [x, y, cx, cy]) (by simp) rfl)
  all_goals (intro hz; subst_vars; assumption)

end Go.Proofs.Ytaadajadeemndaa
