/- flat.Count. -/
import Derived.Test.YtbpgehaflbacmaaFlat
import Derived.Test.YtbpgehaflbacmaaMay
namespace Go.Proofs.Ytbpgehaflbacmaa
open Go.RowKit

end Go.Proofs.Ytbpgehaflbacmaa
