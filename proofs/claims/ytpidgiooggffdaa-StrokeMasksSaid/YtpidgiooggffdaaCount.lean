/- flat.Count. -/
import Derived.Test.YtpidgiooggffdaaFlat
import Derived.Test.YtpidgiooggffdaaMay
namespace Go.Proofs.Ytpidgiooggffdaa
open Go.RowKit

end Go.Proofs.Ytpidgiooggffdaa
