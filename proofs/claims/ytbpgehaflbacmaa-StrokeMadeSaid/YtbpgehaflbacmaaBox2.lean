/- path.Box of a valid path. -/
import Derived.Test.YtbpgehaflbacmaaBox
namespace Go.Proofs.Ytbpgehaflbacmaa
open Go.RowKit

end Go.Proofs.Ytbpgehaflbacmaa
