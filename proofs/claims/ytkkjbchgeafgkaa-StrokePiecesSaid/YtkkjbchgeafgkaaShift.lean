/- path.Shift: what it returns, and that what was there is as it was. -/
import Derived.Test.YtkkjbchgeafgkaaAdd
import Derived.Test.YtkkjbchgeafgkaaAllP
namespace Go.Proofs.Ytkkjbchgeafgkaa
open Go.RowKit

/-- A number added, as the machine adds. -/
def ad (d v : Int) : Int := wrap64 (v + d)

end Go.Proofs.Ytkkjbchgeafgkaa
