/- The walk of GlyphCuts: it returns true. -/
import Derived.Test.YtbpeoejjjllieaaGlyphCode3
namespace Go.Proofs.Ytbpeoejjjllieaa
open Go.RowKit

set_option maxRecDepth 100000 in
set_option maxHeartbeats 4000000 in
theorem GlyphCuts_any (A : Option Addr) (n c : Nat) (at_ : Int) (more : ByteArray) (w : World) (h : InA w A n) (hnc : n ≤ c) (hcm : c ≤ 9223372036854775807) (hmx : more.size ≤ maxLen) :
    Calls Try.prog 8 #[.slice A n c, .int .i64 at_, .string more] w fun e w' => e = .returned (.bool true) ∧ Below w.heap.size w w' := by
  simp only [maxLen] at hmx
  obtain ⟨z, hz⟩ : ∃ z, more.size = z := ⟨_, rfl⟩
  by_cases h100 : z ≤ 100
  · have hz1 : decide ((z : Int) > 100) = false := by simp; omega
    go_enter Try.func8, Try.ntmps8
    go_wp2_with fail
    refine (known40_any _).mono ?_; rintro e w1 ⟨rfl, hb1⟩
    go_wp2_with fail
    refine (Made_any A n c true w1 (h.below hb1) hnc hcm).mono ?_; rintro e w2 ⟨l, A2, c2, rfl, hown2, hmd2, hb2⟩
    have B2 : Below w.heap.size w w2 := btr hb1 hb2
    have hp2 := own_sl hown2
    have hl12 := hmd2.2.1
    have HMD := Lib.hid hmd2
    clear hb1 hb2 hown2 hmd2
    obtain ⟨m, hm⟩ : ∃ m, l.length = m := ⟨_, rfl⟩
    rw [hm] at hl12 hp2 ⊢
    obtain ⟨hG, hlen⟩ := code_made HMD.out (wide := 9) (by omega)
    obtain ⟨s, hs⟩ : ∃ s, strOfNums ((codeS l 9).map Int.ofNat) = s := ⟨_, rfl⟩
    obtain ⟨u, hu⟩ : ∃ u, (codeS l 9).length = u := ⟨_, rfl⟩
    have hbl : bl s = codeS l 9 := by rw [← hs]; exact bl_nat (codeS_byte l 9)
    have hsz : s.size = u := by rw [← bl_len, hbl]; exact hu
    have hu1 : 0 < u := by rw [← hu]; simp [codeS]
    rw [hu] at hlen
    obtain ⟨k, hk⟩ : ∃ k : Nat, placeI at_ u = (k : Int) := ⟨(placeI at_ u).toNat, by unfold placeI; have := Int.emod_nonneg at_ (show (u : Int) ≠ 0 by omega); omega⟩
    have hku : k < u := by unfold placeI at hk; have := Int.emod_lt_of_pos at_ (b := (u : Int)) (by omega); omega
    have HC := Lib.hid (show RunG (bl (s.extract 0 k)) = (([], 0), 4) by
      rw [bl_mid, hbl, List.drop_zero, Nat.sub_zero]
      exact code_cut HMD.out.may (by omega) (by omega) (by omega))
    have HB := Lib.hid (show RunG (bl (s ++ more)) = ((l, 9), 0) by
      rw [bl_add, hbl]
      exact code_back HMD.out.may (by omega) _ (by rw [List.length_append, bl_len]; omega))
    have HS1 := Lib.hid (show (s ++ more).size ≤ 1000000 by rw [ByteArray.size_append]; omega)
    have HS2 := Lib.hid (show (s.extract 0 k).size ≤ 1000000 by rw [← bl_len, bl_mid, List.length_take]; omega)
    have HG := Lib.hid hG
    have HML := Lib.hid hm
    have HSS := Lib.hid hs
    have hmax : max (u : Int) 1 = (u : Int) := by omega
    clear hG hm hs hbl hu
    go_wp2_with fail
    refine (Code_any _ _ _ l 9 _ hp2 (by omega)).mono ?_; rintro e w4 ⟨rfl, hb4⟩
    rw [HG.out]
    simp only
    rw [HSS.out]
    have hp4 := hp2.below hb4
    have B4 := btr B2 hb4
    clear hp2 B2 hb4
    go_wp2_with fail
    refine (Place_any at_ u _ (by omega) (by omega)).mono ?_; rintro e w5 ⟨rfl, rfl⟩
    rw [hk]
    clear hk
    have hku1 : (k : Int) ≤ (u : Int) := by omega
    go_wp2_with fail
    refine (Run_is (n := 0) _ HS2.out HC.out rfl).mono ?_; rintro e w6 ⟨A6, c6, rfl, hs6, hb6⟩
    have hp6 := hp4.below hb6
    have B6 := btr B4 hb6
    clear hp4 B4 hb6 hs6
    go_wp2_with fail
    refine (Run_is _ HS1.out HB.out HML.out).mono ?_; rintro e w7 ⟨A7, c7, rfl, hs7, hb7⟩
    go_wp2_with fail
    refine (sameSg_any _ _ _ _ _ _ l _ (by omega) hs7 (hp6.below hb7)).mono ?_; rintro e w8 ⟨rfl, q8, rfl⟩
    go_wp2_with fail
    go_ret
    exact ⟨rfl, bdrewN (btr B6 hb7) _⟩
  · have hz1 : decide ((z : Int) > 100) = true := by simp; omega
    go_enter Try.func8, Try.ntmps8
    go_wp2_with fail
    refine (known40_any _).mono ?_; rintro e w1 ⟨rfl, hb1⟩
    go_wp2_with fail
    go_ret
    exact ⟨rfl, hb1⟩
end Go.Proofs.Ytbpeoejjjllieaa
