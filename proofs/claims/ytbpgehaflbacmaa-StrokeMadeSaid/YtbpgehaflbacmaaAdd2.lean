/- path.Start, on, Line, Bow, Shut, Join: what they return, and that what was there is as it was. -/
import Derived.Test.YtbpgehaflbacmaaAdd
namespace Go.Proofs.Ytbpgehaflbacmaa
open Go.RowKit

/-- The shorter slice reads as the shorter list. -/
theorem Sl.front {w : World} {A : Option Addr} {n : Nat} {l : List Sg} (h : Sl w 5 A n (sgs l)) : Sl w 5 A (n - 1) (sgs l.dropLast) := by
  have hl := h.sglen
  refine ⟨by rw [sgs_len, List.length_dropLast, hl], fun hn => ?_⟩
  obtain ⟨b, off, e, hb, hc⟩ := h.2 (by omega)
  refine ⟨b, off, e, hb, fun j u hu => hc j u ?_⟩
  have hs : sgs l = sgs l.dropLast ++ sgs [l[n - 1]'(by omega)] := by
    rw [← sgs_app]
    congr 1
    have hne : l ≠ [] := by intro e; rw [e] at hl; simp at hl; omega
    have := (List.dropLast_concat_getLast hne).symm
    rw [List.getLast_eq_getElem] at this
    simp only [hl] at this
    exact this
  rw [hs, List.getElem?_append_left]
  · exact hu
  · exact (List.getElem?_eq_some_iff.1 hu).1

theorem nearB_near {x y : Int} (h : nearB [x, y] = true) : co x = true ∧ co y = true := by simpa [nearB] using h

end Go.Proofs.Ytbpgehaflbacmaa
