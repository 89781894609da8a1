/- flat.Count. -/
import Derived.Test.YtoehkfinchnadaaFlat
import Derived.Test.YtoehkfinchnadaaMay
namespace Go.Proofs.Ytoehkfinchnadaa
open Go.RowKit

end Go.Proofs.Ytoehkfinchnadaa
