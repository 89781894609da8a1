/- path.Box of a valid path. -/
import Derived.Test.YtpidgiooggffdaaBox
namespace Go.Proofs.Ytpidgiooggffdaa
open Go.RowKit

end Go.Proofs.Ytpidgiooggffdaa
