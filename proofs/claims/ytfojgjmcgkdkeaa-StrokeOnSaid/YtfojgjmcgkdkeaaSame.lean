/- tympanhelp.Same: two slices that read as one list are alike. -/
import Derived.Test.YtfojgjmcgkdkeaaProg
import Derived.Test.YtfojgjmcgkdkeaaAllP
namespace Go.Proofs.Ytfojgjmcgkdkeaa
open Go.RowKit

end Go.Proofs.Ytfojgjmcgkdkeaa
