/- tympanlaw27.known: the document's example holds. -/
import Derived.Test.YtpompbpdhahljaaEdges
import Derived.Test.YtpompbpdhahljaaSame
namespace Go.Proofs.Ytpompbpdhahljaa
open Go.RowKit

theorem known27_lns : lns ⟨0, 0, true, 8, 8, 16, 0⟩ = [⟨0, 0, false, 0, 0, 8, 4⟩, ⟨8, 4, false, 0, 0, 16, 0⟩] := by decide
theorem known27_cnt : cntI ⟨0, 0, true, 8, 8, 16, 0⟩ = 2 := by decide

set_option maxHeartbeats 400000 in
theorem known27_any (w : World) : Calls Try.prog 16 #[] w fun e w' => e = .returned (.bool true) ∧ Below w.heap.size w w' := by
  go_enter Try.func16, Try.ntmps16
  go_wp2_with fail
  refine (Count_is _ _ _ _ _ _ _ _ _ known27_cnt).mono ?_; rintro e w1 ⟨rfl, hb1⟩
  obtain ⟨hc1, hf1⟩ := bcell hb1
  go_wp2_with fail
  refine (Edges_any _ _ _ _ _ _ _ _ _ known27_lns).mono ?_; rintro e w2 ⟨A, c, rfl, hown, hb2⟩
  have hs := own_sl hown
  clear hc1 hf1
  go_wp2_with fail
  refine (sameEd_any _ _ _ _ _ _ [⟨0, 0, false, 0, 0, 8, 4⟩, ⟨8, 4, false, 0, 0, 16, 0⟩] _ (by simp) (hs.below (bal (Below.refl _ _) _)) (sl_newN (eds [⟨0, 0, false, 0, 0, 8, 4⟩, ⟨8, 4, false, 0, 0, 16, 0⟩]) rfl rfl)).mono ?_; rintro e w3 ⟨rfl, q, rfl⟩
  go_wp2
  go_ret
  exact ⟨rfl, bdrewN (bal (btr (btr (bal (Below.refl _ _) _) hb1) hb2) _) q⟩
end Go.Proofs.Ytpompbpdhahljaa
