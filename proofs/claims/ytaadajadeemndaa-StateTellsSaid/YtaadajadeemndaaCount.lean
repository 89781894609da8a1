/- flat.Count. -/
import Derived.Test.YtaadajadeemndaaFlat
import Derived.Test.YtaadajadeemndaaMay
namespace Go.Proofs.Ytaadajadeemndaa
open Go.RowKit

end Go.Proofs.Ytaadajadeemndaa
