/- tympanref25.Flat. -/
import Derived.Test.YtfojgjmcgkdkeaaRefLines
import Derived.Test.YtfojgjmcgkdkeaaRefSeg
import Derived.Test.YtfojgjmcgkdkeaaRefMay
import Derived.Test.YtfojgjmcgkdkeaaAllP
namespace Go.Proofs.Ytfojgjmcgkdkeaa
open Go.RowKit

end Go.Proofs.Ytfojgjmcgkdkeaa
