/- path.Shift: what it returns, and that what was there is as it was. -/
import Derived.Test.YtbpgehaflbacmaaAdd
import Derived.Test.YtbpgehaflbacmaaAllP
namespace Go.Proofs.Ytbpgehaflbacmaa
open Go.RowKit

/-- A number added, as the machine adds. -/
def ad (d v : Int) : Int := wrap64 (v + d)

end Go.Proofs.Ytbpgehaflbacmaa
