/- The reference's matrices: IsFix, May, Even, two, fair, Point, Vector. -/
import Derived.Test.YtgbppblofiogbaaMat4
import Derived.Test.YtgbppblofiogbaaSt1
namespace Go.Proofs.Ytgbppblofiogbaa
open Go.RowKit Go.BigFrame

set_option maxRecDepth 100000 in
theorem rIsCoord_any (v : Int) (w : World) : Calls Try.prog 70 #[.int .i64 v] w fun e w' => e = .returned (.bool (inB v (-8191) 8191)) ∧ w = w' := by
  have hs : (inB v (-8191) 8191) = (decide (v ≥ -8191) && decide (v ≤ 8191)) := rfl
  rw [hs]
  clear hs
  go_enter Try.func70, Try.ntmps70
  go_wp2
  all_goals
    go_ret
    refine ⟨?_, rfl⟩
    first | (simp_all; done) | (simp_all; omega)
end Go.Proofs.Ytgbppblofiogbaa
