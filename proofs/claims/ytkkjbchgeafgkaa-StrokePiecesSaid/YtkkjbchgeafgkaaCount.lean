/- flat.Count. -/
import Derived.Test.YtkkjbchgeafgkaaFlat
import Derived.Test.YtkkjbchgeafgkaaMay
namespace Go.Proofs.Ytkkjbchgeafgkaa
open Go.RowKit

end Go.Proofs.Ytkkjbchgeafgkaa
