/- path.Box of a valid path. -/
import Derived.Test.YtfojgjmcgkdkeaaBox
namespace Go.Proofs.Ytfojgjmcgkdkeaa
open Go.RowKit

end Go.Proofs.Ytfojgjmcgkdkeaa
