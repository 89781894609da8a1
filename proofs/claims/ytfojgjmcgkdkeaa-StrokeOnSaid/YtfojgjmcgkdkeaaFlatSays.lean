/- The walk of FlatSays: it returns true. -/
import Derived.Test.YtfojgjmcgkdkeaaKnown27
import Derived.Test.YtfojgjmcgkdkeaaEdge
import Derived.Test.YtfojgjmcgkdkeaaFlatPath
import Derived.Test.YtfojgjmcgkdkeaaRefFlatPath
import Derived.Deep.RegionWith
import Derived.Deep.RegionHeld3
namespace Go.Proofs.Ytfojgjmcgkdkeaa
open Go.RowKit

theorem flat_Path_any (A : Option Addr) (n c : Nat) (l : List Sg) (E : List Sg × Int) (w : World) (hm : n ≤ 1000000) (h : Sl w 5 A n (sgs l)) (hE : flatE l = E) :
    Calls Try.prog 26 #[.slice A n c] w fun e w' => ∃ A' c', e = .returned (.tuple #[.slice A' E.1.length c', .int .i64 E.2]) ∧
      w'.ownsRow w.heap.size 39 5 (.slice A' E.1.length c') E.1.length (sgs E.1) ∧ Below w.heap.size w w' := by
  subst hE
  rcases Bool.eq_false_or_eq_true (mayB l) with hok | hok
  · exact flat_Path_yes A n c l w hm h hok
  · exact flat_Path_no A n c l w hm h hok
theorem keep7 {W w' : World} {g : Nat} {v0 v1 v2 v3 v4 v5 v6 : Value} (hb : Below W.heap.size W w') (hlt : g < W.heap.size)
    (h : W.cell? ⟨g, 0, none⟩ = some v0 ∧ W.cell? ⟨g, 1, none⟩ = some v1 ∧ W.cell? ⟨g, 2, none⟩ = some v2 ∧ W.cell? ⟨g, 3, none⟩ = some v3 ∧ W.cell? ⟨g, 4, none⟩ = some v4 ∧ W.cell? ⟨g, 5, none⟩ = some v5 ∧ W.cell? ⟨g, 6, none⟩ = some v6) :
    w'.cell? ⟨g, 0, none⟩ = some v0 ∧ w'.cell? ⟨g, 1, none⟩ = some v1 ∧ w'.cell? ⟨g, 2, none⟩ = some v2 ∧ w'.cell? ⟨g, 3, none⟩ = some v3 ∧ w'.cell? ⟨g, 4, none⟩ = some v4 ∧ w'.cell? ⟨g, 5, none⟩ = some v5 ∧ w'.cell? ⟨g, 6, none⟩ = some v6 := by
  obtain ⟨h0, h1, h2, h3, h4, h5, h6⟩ := h
  exact ⟨(later_cell hb hlt).trans h0, (later_cell hb hlt).trans h1, (later_cell hb hlt).trans h2, (later_cell hb hlt).trans h3, (later_cell hb hlt).trans h4, (later_cell hb hlt).trans h5, (later_cell hb hlt).trans h6⟩

theorem keep7d {w' : World} {g q : Nat} {v0 v1 v2 v3 v4 v5 v6 : Value}
    (h : w'.cell? ⟨g, 0, none⟩ = some v0 ∧ w'.cell? ⟨g, 1, none⟩ = some v1 ∧ w'.cell? ⟨g, 2, none⟩ = some v2 ∧ w'.cell? ⟨g, 3, none⟩ = some v3 ∧ w'.cell? ⟨g, 4, none⟩ = some v4 ∧ w'.cell? ⟨g, 5, none⟩ = some v5 ∧ w'.cell? ⟨g, 6, none⟩ = some v6) :
    (w'.drewN q).cell? ⟨g, 0, none⟩ = some v0 ∧ (w'.drewN q).cell? ⟨g, 1, none⟩ = some v1 ∧ (w'.drewN q).cell? ⟨g, 2, none⟩ = some v2 ∧ (w'.drewN q).cell? ⟨g, 3, none⟩ = some v3 ∧ (w'.drewN q).cell? ⟨g, 4, none⟩ = some v4 ∧ (w'.drewN q).cell? ⟨g, 5, none⟩ = some v5 ∧ (w'.drewN q).cell? ⟨g, 6, none⟩ = some v6 := h

end Go.Proofs.Ytfojgjmcgkdkeaa
