/- The reference's way round the row, told plainly. -/
import Derived.Test.YtdfkbbcoolgfiaaGreatDash6
namespace Go.Proofs.YtdfkbbcoolgfiaaGreat

/-- Reduced modulo twice the row's sum the same is drawn. -/
theorem red2 {on : List Int} (h : Row on) (f : Int) (ps : List Ed) : dashW on (redF (2 * on.sum) f) ps = dashW on f ps := by
  have he : (on ++ on).length % 2 = 0 := by rw [List.length_append]; omega
  have hs : (on ++ on).sum = 2 * on.sum := by rw [List.sum_append]; omega
  have := dashW_red h.dbl he f ps
  rwa [hs, dashW_dbl h, dashW_dbl h] at this
theorem dashTo_none {ps : List Ed} (h : sumL ps = 0) (on : List Int) (f : Int) (k : Nat) : dashTo on f ps k = [] := by
  unfold dashTo
  rw [List.flatMap_eq_nil_iff]
  intro j _
  unfold dashAt
  rw [if_neg (by omega)]
theorem cutL_over2 {on : List Int} {f f2 : Int} {l : List Sg} {k j : Nat} {c : Ct} (hn : on ≠ []) (hr : Row on) (hc : (ctsL l)[k]? = some c) (hf : ∀ ps, dashW on f2 ps = dashW on f ps)
    (h : 300 < (((ctsL l).take k).flatMap (dashC on f) ++ dashTo on f2 (piecesC c) j).length) : cutL on f l = ([], 5) := by
  obtain ⟨hk, hc⟩ := List.getElem?_eq_some_iff.1 hc
  have h1 := dashTo_le hr f2 (piecesC c) j
  rw [hf] at h1
  have h2 := flat_le (dashC on f) (ctsL l) k hk
  rw [hc] at h2
  have h3 : dashC on f c = dashW on f (piecesC c) := rfl
  rw [h3] at h2
  rw [List.length_append] at h
  unfold cutL
  rw [if_neg hn, if_pos]
  unfold dashL; omega
end Go.Proofs.YtdfkbbcoolgfiaaGreat
