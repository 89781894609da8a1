/- tympanlaw25.known: the document's examples hold. -/
import Derived.Test.YtpompbpdhahljaaSame
import Derived.Test.YtpompbpdhahljaaAdd2
import Derived.Test.YtpompbpdhahljaaBack
import Derived.Test.YtpompbpdhahljaaPEdges
namespace Go.Proofs.Ytpompbpdhahljaa
open Go.RowKit

def cornerL : List Sg := [⟨1, 0, 0, 0, 0⟩, ⟨2, 8, 0, 0, 0⟩, ⟨2, 8, 8, 0, 0⟩, ⟨4, 0, 0, 0, 0⟩]
theorem corner_may : mayB cornerL = true := by decide
theorem corner_on : onL [] ⟨2, 1, 1, 0, 0⟩ = ([], 13) := by decide
theorem corner_edges : edgesL cornerL = [⟨0, 0, false, 0, 0, 8, 0⟩, ⟨8, 0, false, 0, 0, 8, 8⟩, ⟨8, 8, false, 0, 0, 0, 0⟩] := by decide
theorem corner_back : backL cornerL = [⟨1, 8, 8, 0, 0⟩, ⟨2, 8, 0, 0, 0⟩, ⟨2, 0, 0, 0, 0⟩, ⟨4, 0, 0, 0, 0⟩] := by decide

theorem corner_any (w : World) : Calls Try.prog 53 #[] w fun e w' => ∃ A c, e = .returned (.slice A 4 c) ∧ 4 ≤ c ∧ Sl w' 5 A 4 (sgs cornerL) ∧ Below w.heap.size w w' := by
  go_enter Try.func53, Try.ntmps53
  go_wp2
  go_ret
  exact ⟨_, _, rfl, Nat.le_refl _, sl_newN (sgs cornerL) rfl rfl, bal (Below.refl _ _) _⟩

set_option maxHeartbeats 1000000 in
theorem known25_any (w : World) : Calls Try.prog 30 #[] w fun e w' => e = .returned (.bool true) ∧ Below w.heap.size w w' := by
  go_enter Try.func30, Try.ntmps30
  go_wp2_with fail
  refine (Line_any _ _ _ _ _ [] _ _ (by omega) (show Sl w 5 none 0 (sgs []) from Sl.nil_) corner_on).mono ?_; rintro e w1 ⟨A1, c1, rfl, hown1, hb1⟩
  clear hown1
  go_wp2_with fail
  refine (corner_any _).mono ?_; rintro e w2 ⟨A2, c2, rfl, hc2, hs2, hb2⟩
  have B2 := btr hb1 hb2
  clear hb1 hb2
  go_wp2_with fail
  refine (PEdges_any _ _ _ cornerL _ _ (by omega) hs2 corner_edges).mono ?_; rintro e w3 ⟨A3, c3, rfl, hown3, hb3, -⟩
  have hs3 := own_sl hown3
  have B3 := btr B2 hb3
  clear hb3 hs2 B2 hown3
  go_wp2_with fail
  refine (corner_any _).mono ?_; rintro e w4 ⟨A4, c4, rfl, hc4, hs4, hb4⟩
  have hs5 := hs3.below hb4
  have B4 := btr B3 hb4
  clear hb4 B3 hs3
  go_wp2_with fail
  refine (Back_any _ _ _ cornerL _ _ (by omega) hs4 corner_back).mono ?_; rintro e w5 ⟨A5, c5, rfl, hown5, hb5⟩
  have hs6 := own_sl hown5
  have hs7 := hs5.below hb5
  have B5 := btr B4 hb5
  clear hb5 hs4 hown5 B4 hs5
  obtain ⟨b, off, rfl, hb, d0, d1, d2, d3, d4, d5, d6⟩ := hs7.ed 2 (by decide) (by decide)
  simp only [List.getElem_cons_succ, List.getElem_cons_zero] at d0 d1 d2 d3 d4 d5 d6
  clear hs7
  go_wp2_with fail
  refine (corner_any _).mono ?_; rintro e w6 ⟨A6, c6, rfl, hc6, hs8, hb6⟩
  have hs9 := hs6.below hb6
  have B6 := btr B5 hb6
  clear hb6 d0 d1 d2 d3 d4 d5 d6 hs6 B5 hb
  go_wp2_with fail
  refine (path_May_any _ _ _ cornerL _ (by omega) hs8).mono ?_; rintro e w7 ⟨rfl, hb7⟩
  rw [corner_may]
  have hs10 := hs9.below hb7
  have B7 := btr B6 hb7
  clear hb7 hs8 hs9 B6
  go_wp2_with fail
  refine (sameSg_any _ _ _ _ _ _ [⟨1, 8, 8, 0, 0⟩, ⟨2, 8, 0, 0, 0⟩, ⟨2, 0, 0, 0, 0⟩, ⟨4, 0, 0, 0, 0⟩] _ (by simp) (hs10.below (bal (Below.refl _ _) _)) (sl_newN (sgs [⟨1, 8, 8, 0, 0⟩, ⟨2, 8, 0, 0, 0⟩, ⟨2, 0, 0, 0, 0⟩, ⟨4, 0, 0, 0, 0⟩]) rfl rfl)).mono ?_; rintro e w8 ⟨rfl, q, rfl⟩
  go_wp2
  go_ret
  exact ⟨rfl, bdrewN (bal B7 _) q⟩
end Go.Proofs.Ytpompbpdhahljaa
