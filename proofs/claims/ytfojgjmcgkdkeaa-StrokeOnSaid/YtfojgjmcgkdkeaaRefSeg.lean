/- tympanref25.Seg, Flip. -/
import Derived.Test.YtfojgjmcgkdkeaaRef
namespace Go.Proofs.Ytfojgjmcgkdkeaa
open Go.RowKit

end Go.Proofs.Ytfojgjmcgkdkeaa
