/- The reference's matrices: IsFix, May, Even, two, fair, Point, Vector. -/
import Derived.Test.YtaphmonpdnbiiaaMat4
import Derived.Test.YtaphmonpdnbiiaaSt1
namespace Go.Proofs.Ytaphmonpdnbiiaa
open Go.RowKit Go.BigFrame

set_option maxRecDepth 100000 in
theorem rIsCoord_any (v : Int) (w : World) : Calls Try.prog 60 #[.int .i64 v] w fun e w' => e = .returned (.bool (inB v (-8191) 8191)) ∧ w = w' := by
  have hs : (inB v (-8191) 8191) = (decide (v ≥ -8191) && decide (v ≤ 8191)) := rfl
  rw [hs]
  clear hs
  go_enter Try.func60, Try.ntmps60
  go_wp2
  all_goals
    go_ret
    refine ⟨?_, rfl⟩
    first | (simp_all; done) | (simp_all; omega)
end Go.Proofs.Ytaphmonpdnbiiaa
