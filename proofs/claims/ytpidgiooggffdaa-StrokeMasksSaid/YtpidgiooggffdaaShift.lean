/- path.Shift: what it returns, and that what was there is as it was. -/
import Derived.Test.YtpidgiooggffdaaAdd
import Derived.Test.YtpidgiooggffdaaAllP
namespace Go.Proofs.Ytpidgiooggffdaa
open Go.RowKit

/-- A number added, as the machine adds. -/
def ad (d v : Int) : Int := wrap64 (v + d)

end Go.Proofs.Ytpidgiooggffdaa
