/- path.Box of a valid path. -/
import Derived.Test.YtkkjbchgeafgkaaBox
namespace Go.Proofs.Ytkkjbchgeafgkaa
open Go.RowKit

end Go.Proofs.Ytkkjbchgeafgkaa
