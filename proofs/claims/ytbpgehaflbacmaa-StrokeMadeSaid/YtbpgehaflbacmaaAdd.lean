/- path.last, longer, Point, Start, on, Line, Bow, Shut, Join: what they return, and that what was there is as it was. -/
import Derived.Test.YtbpgehaflbacmaaMay2
import Derived.Test.YtbpgehaflbacmaaEdges
import Derived.Test.YtbpgehaflbacmaaAllP
namespace Go.Proofs.Ytbpgehaflbacmaa
open Go.RowKit

set_option maxRecDepth 100000 in
theorem ptL_yes {l : List Sg} (h0 : l ≠ []) (hok : mayB l = true) : ptL l = if lastK l = 4 then ((lastMv l).1, (lastMv l).2, true) else (lastX l, lastY l, true) := by
  unfold ptL; rw [if_neg (by rw [hok]; simp [h0])]

end Go.Proofs.Ytbpgehaflbacmaa
