/- flat.Count. -/
import Derived.Test.YtbbffeddlgfeiaaFlat
import Derived.Test.YtbbffeddlgfeiaaMay
namespace Go.Proofs.Ytbbffeddlgfeiaa
open Go.RowKit

end Go.Proofs.Ytbbffeddlgfeiaa
