/- tympanref25.Lines, Seg, Flip. -/
import Derived.Test.YtfojgjmcgkdkeaaRefFlat
namespace Go.Proofs.Ytfojgjmcgkdkeaa
open Go.RowKit

end Go.Proofs.Ytfojgjmcgkdkeaa
