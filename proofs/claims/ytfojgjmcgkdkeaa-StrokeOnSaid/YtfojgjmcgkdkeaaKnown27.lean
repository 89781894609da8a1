/- tympanlaw27.known: the document's example holds. -/
import Derived.Test.YtfojgjmcgkdkeaaEdges
import Derived.Test.YtfojgjmcgkdkeaaSame
namespace Go.Proofs.Ytfojgjmcgkdkeaa
open Go.RowKit

theorem known27_lns : lns ⟨0, 0, true, 8, 8, 16, 0⟩ = [⟨0, 0, false, 0, 0, 8, 4⟩, ⟨8, 4, false, 0, 0, 16, 0⟩] := by decide
theorem known27_cnt : cntI ⟨0, 0, true, 8, 8, 16, 0⟩ = 2 := by decide

end Go.Proofs.Ytfojgjmcgkdkeaa
