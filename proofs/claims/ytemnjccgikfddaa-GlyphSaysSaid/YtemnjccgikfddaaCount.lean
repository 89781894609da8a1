/- flat.Count. -/
import Derived.Test.YtemnjccgikfddaaFlat
import Derived.Test.YtemnjccgikfddaaMay
namespace Go.Proofs.Ytemnjccgikfddaa
open Go.RowKit

end Go.Proofs.Ytemnjccgikfddaa
