/- flat.Count. -/
import Derived.Test.YtbpeoejjjllieaaFlat
import Derived.Test.YtbpeoejjjllieaaMay
namespace Go.Proofs.Ytbpeoejjjllieaa
open Go.RowKit

end Go.Proofs.Ytbpeoejjjllieaa
