/- The walk of GlyphBack: it returns true. -/
import Derived.Test.YtbpeoejjjllieaaGlyphCode3
namespace Go.Proofs.Ytbpeoejjjllieaa
open Go.RowKit

set_option maxRecDepth 100000 in
set_option maxHeartbeats 4000000 in
theorem GlyphBack_any (A : Option Addr) (n c : Nat) (wide : Int) (A1 : Option Addr) (n1 c1 : Nat) (l1 : List Sg) (k1 : Int) (w : World) (h : InA w A n) (hnc : n ≤ c) (hcm : c ≤ 9223372036854775807) (hs1 : Sl w 5 A1 n1 (sgs l1)) (hc1 : n1 ≤ 9223372036854775807) :
    Calls Try.prog 6 #[.slice A n c, .int .i64 wide, .slice A1 n1 c1, .int .i64 k1] w fun e w' => e = .returned (.bool true) ∧ Below w.heap.size w w' := by
  go_enter Try.func6, Try.ntmps6
  go_wp2_with fail
  refine (known40_any _).mono ?_; rintro e w1 ⟨rfl, hb1⟩
  go_wp2_with fail
  refine (Made_any A n c true w1 (h.below hb1) hnc hcm).mono ?_; rintro e w2 ⟨l, A2, c2, rfl, hown2, hmd2, hb2⟩
  have B2 : Below w.heap.size w w2 := btr hb1 hb2
  have hp2 := own_sl hown2
  have hl12 := hmd2.2.1
  have HMD := Lib.hid hmd2
  clear hb1 hb2 hown2 hmd2
  obtain ⟨m, hm⟩ : ∃ m, l.length = m := ⟨_, rfl⟩
  rw [hm] at hl12 hp2 ⊢
  go_wp2_with fail
  refine (Place_any wide 8192 _ (by omega) (by omega)).mono ?_; rintro e w3 ⟨rfl, rfl⟩
  obtain ⟨k, hk⟩ : ∃ k, placeI wide 8192 = k := ⟨_, rfl⟩
  have hkb : 0 ≤ k ∧ k ≤ 8191 := by rw [← hk]; unfold placeI; omega
  rw [hk]
  obtain ⟨hG, hlen⟩ := code_made HMD.out hkb
  have HR := Lib.hid (show RunG (bl (strOfNums ((codeS l k).map Int.ofNat))) = ((l, k), 0) by
    rw [bl_nat (codeS_byte l k)]
    have := code_back HMD.out.may hkb [] (by rw [List.append_nil]; omega)
    rwa [List.append_nil] at this)
  have HG := Lib.hid hG
  have HLE := Lib.hid hlen
  have HML := Lib.hid hm
  clear hk hG hlen hm
  go_wp2_with fail
  refine (Code_any _ _ _ l k _ hp2 (by omega)).mono ?_; rintro e w4 ⟨rfl, hb4⟩
  rw [HG.out]
  have hp4 := hp2.below hb4
  have B4 := btr B2 hb4
  clear hp2 B2 hb4
  go_wp2_with fail
  refine (Run_is _ (by rw [strOfNums_size, List.length_map]; have := HLE.out; omega) HR.out HML.out).mono ?_; rintro e w5 ⟨A5, c5, rfl, hs5, hb5⟩
  have hp5 := hp4.below hb5
  have B5 := btr B4 hb5
  clear hp4 B4 hb5
  go_wp2_with fail
  refine (sameSg_any _ _ _ _ _ _ l _ (by omega) hs5 hp5).mono ?_; rintro e w6 ⟨rfl, q6, rfl⟩
  have hkk : (k != k) = false := by simp
  go_wp2_with fail
  by_cases hf : (n1 : Int) ≤ 320
  · refine (Few_say _ _ _ _ (by omega)).mono ?_; rintro e w7 ⟨rfl, rfl⟩
    have hdf : decide ((n1 : Int) ≤ 320) = true := by simpa using hf
    have hs7 := hs1.below (bdrewN B5 q6)
    rcases codeG_cases l1 k1 with ⟨g1, g2, g3, g4⟩ | g1 | g1
    · have HG1 := Lib.hid g1
      have HR1 := Lib.hid (show RunG (bl (strOfNums ((codeS l1 k1).map Int.ofNat))) = ((l1, k1), 0) by
        rw [bl_nat (codeS_byte l1 k1)]
        have := code_back g2 g3 [] (by rw [List.append_nil]; omega)
        rwa [List.append_nil] at this)
      have HL1 := Lib.hid g4
      have HN1 := Lib.hid hs1.sglen
      clear g1 g2 g4
      go_wp2_with fail
      refine (Code_any _ _ _ l1 k1 _ hs7 (by omega)).mono ?_; rintro e w8 ⟨rfl, hb8⟩
      rw [HG1.out]
      go_wp2_with fail
      refine (Run_is _ (by rw [strOfNums_size, List.length_map]; have := HL1.out; omega) HR1.out HN1.out).mono ?_; rintro e w9 ⟨A9, c9, rfl, hs9, hb9⟩
      go_wp2_with fail
      refine (sameSg_any _ _ _ _ _ _ l1 _ (by omega) hs9 ((hs7.below hb8).below hb9)).mono ?_; rintro e w10 ⟨rfl, q10, rfl⟩
      have hk1 : (k1 == k1) = true := by simp
      go_wp2_with fail
      go_ret
      exact ⟨rfl, bdrewN (btr (btr (bdrewN B5 q6) hb8) hb9) _⟩
    · have HG1 := Lib.hid g1
      clear g1
      go_wp2_with fail
      refine (Code_any _ _ _ l1 k1 _ hs7 (by omega)).mono ?_; rintro e w8 ⟨rfl, hb8⟩
      rw [HG1.out]
      have he : strOfNums (([] : List Nat).map Int.ofNat) = { data := #[] } := rfl
      simp only [he]
      go_wp2_with fail
      go_ret
      exact ⟨rfl, btr (bdrewN B5 q6) hb8⟩
    · have HG1 := Lib.hid g1
      clear g1
      go_wp2_with fail
      refine (Code_any _ _ _ l1 k1 _ hs7 (by omega)).mono ?_; rintro e w8 ⟨rfl, hb8⟩
      rw [HG1.out]
      have he : strOfNums (([] : List Nat).map Int.ofNat) = { data := #[] } := rfl
      simp only [he]
      go_wp2_with fail
      go_ret
      exact ⟨rfl, btr (bdrewN B5 q6) hb8⟩
  · refine (Few_say _ _ _ _ (by omega)).mono ?_; rintro e w7 ⟨rfl, rfl⟩
    have hdf : decide ((n1 : Int) ≤ 320) = false := by simpa using hf
    go_wp2_with fail
    go_ret
    exact ⟨rfl, bdrewN B5 q6⟩
end Go.Proofs.Ytbpeoejjjllieaa
