/- The walk of GlyphNumbers: it returns true. -/
import Derived.Test.YtbpeoejjjllieaaGlyph12
import Derived.Test.YtbpeoejjjllieaaGlyphNumbersP
namespace Go.Proofs.Ytbpeoejjjllieaa
open Go.RowKit Go.BigFrame

theorem lit1 (W : World) (g : Nat) (a : Int) (hg : W.heap.size = g) : (convert 25 9 (.slice (some ⟨g, 0, none⟩) 1 1)).run Try.prog (W.alloc (.cells #[.int .u8 a] 5)) = .ok (.string (strOfNums [a])) (W.alloc (.cells #[.int .u8 a] 5)) := by subst hg; exact lit_str W [a] 1 rfl
theorem lit2 (W : World) (g : Nat) (a b : Int) (hg : W.heap.size = g) : (convert 25 9 (.slice (some ⟨g, 0, none⟩) 2 2)).run Try.prog (W.alloc (.cells #[.int .u8 a, .int .u8 b] 5)) = .ok (.string (strOfNums [a, b])) (W.alloc (.cells #[.int .u8 a, .int .u8 b] 5)) := by subst hg; exact lit_str W [a, b] 2 rfl
theorem lit3 (W : World) (g : Nat) (a b c : Int) (hg : W.heap.size = g) : (convert 25 9 (.slice (some ⟨g, 0, none⟩) 3 3)).run Try.prog (W.alloc (.cells #[.int .u8 a, .int .u8 b, .int .u8 c] 5)) = .ok (.string (strOfNums [a, b, c])) (W.alloc (.cells #[.int .u8 a, .int .u8 b, .int .u8 c] 5)) := by subst hg; exact lit_str W [a, b, c] 3 rfl
theorem num_say {xs : List Int} {ns : List Nat} {x : Int} (hb : ∀ x ∈ xs, 0 ≤ x ∧ x < 256) (hns : xs.map Int.toNat = ns) (hx : -1131 ≤ x ∧ x ≤ 1131) (hne : ∃ b r, ns = b :: r ∧ 32 ≤ b) (hl : ns.length ≤ 10) (hn : ∀ r, numG (ns ++ r) = some (x, ns.length)) :
    RunG (bl ({ data := #[0] } ++ strOfNums xs ++ { data := #[139, 2, 10] })) = (([⟨1, x, 0, 0, 0⟩], 0), 0) ∧ ({ data := #[0] } ++ strOfNums xs ++ { data := #[139, 2, 10] } : ByteArray).size ≤ 1000000 := by
  have h1 : bl { data := #[0] } = [0] := by decide
  have h2 : bl { data := #[139, 2, 10] } = [139, 2, 10] := by decide
  have hlen : xs.length = ns.length := by rw [← hns, List.length_map]
  refine ⟨?_, ?_⟩
  · rw [bl_add, bl_add, h1, h2, bl_nums hb, hns]
    exact num_move hx hne hl hn
  · rw [ByteArray.size_append, ByteArray.size_append, strOfNums_size]
    simp [ByteArray.size]; omega
set_option maxRecDepth 100000 in
set_option maxHeartbeats 4000000 in
theorem GlyphNumbers_any (v : Int) (w : World) : Calls Try.prog 3 #[.int .i64 v] w fun e w' => e = .returned (.bool true) ∧ Below w.heap.size w w' := by
  go_enter Try.func3, Try.ntmps3
  go_wp2_with fail
  refine (known40_any _).mono ?_; rintro e w1 ⟨rfl, hb1⟩
  go_wp2_with fail
  refine (Place_any v 2263 _ (by omega) (by omega)).mono ?_; rintro e w2 ⟨rfl, rfl⟩
  obtain ⟨x, hx⟩ : ∃ x, placeI v 2263 - 1131 = x := ⟨_, rfl⟩
  obtain ⟨y, hy⟩ : ∃ y, placeI v 2263 = y := ⟨_, rfl⟩
  have hxb : 0 ≤ y ∧ y < 2263 := by rw [← hy]; unfold placeI; omega
  rw [hy]
  clear hx hy
  have k1 := lit1
  have k2 := lit2
  have k3 := lit3
  have ks := strOfNums_size
  have ha := fun a b : ByteArray => ByteArray.size_append (a := a) (b := b)
  have hs0 : ({ data := #[0] } : ByteArray).size = 1 := rfl
  have hs1 : ({ data := #[139, 2, 10] } : ByteArray).size = 3 := rfl
  by_cases h1 : 107 < y - 1131
  · have SL := Lib.hid (num_say (xs := [255, (y - 1131) / 256, (y - 1131) % 256]) (x := y - 1131) (by intro z hz; simp only [List.mem_cons, List.not_mem_nil, or_false] at hz; omega) rfl (by omega) ⟨_, _, rfl, by omega⟩ (by simp) (fun r => long_num (by omega) r (by omega) (by omega)))
    have SS := Lib.hid (num_say (xs := [247 + (y - 1131 - 108) / 256, (y - 1131 - 108) % 256]) (x := y - 1131) (by intro z hz; simp only [List.mem_cons, List.not_mem_nil, or_false] at hz; omega) rfl (by omega) ⟨_, _, rfl, by omega⟩ (by simp) (fun r => plus_num (by omega) r (by omega) (by omega)))
    go_wp2_with fail
    refine (Run_is (n := 1) _ SL.out.2 SL.out.1 rfl).mono ?_; rintro e w4 ⟨A4, c4, rfl, hs4, hb4⟩
    go_wp2_with fail
    refine (Run_is (n := 1) _ SS.out.2 SS.out.1 rfl).mono ?_; rintro e w5 ⟨A5, c5, rfl, hs5, hb5⟩
    have hs4' := hs4.below hb5
    have B5 := btr (W := w) (btr (W := w) (by repeat (first | with_reducible exact hb1 | with_reducible refine bal ?_ _)) hb4) hb5
    clear hb4 hb5 hs4 k1 k2 k3 ks ha SL SS
    go_wp2_with fail
    refine (sameSg_any _ _ 1 1 _ _ [⟨1, y - 1131, 0, 0, 0⟩] _ (by omega) (hs4'.below (bal (Below.refl _ _) _)) (sl_newN (sgs [⟨1, y - 1131, 0, 0, 0⟩]) rfl rfl)).mono ?_; rintro e w6 ⟨rfl, q6, rfl⟩
    have hs5' := hs5.below (bdrewN (bal (Below.refl _ _) (.cells #[.int .i64 1, .int .i64 (y - 1131), .int .i64 0, .int .i64 0, .int .i64 0] 32)) q6)
    have hs4'' := hs4'.below (bdrewN (bal (Below.refl _ _) (.cells #[.int .i64 1, .int .i64 (y - 1131), .int .i64 0, .int .i64 0, .int .i64 0] 32)) q6)
    go_wp2_with fail
    refine (sameSg_any _ _ 1 1 _ _ [⟨1, y - 1131, 0, 0, 0⟩] _ (by omega) hs5' hs4'').mono ?_; rintro e w7 ⟨rfl, q7, rfl⟩
    go_wp2_with fail
    go_ret
    exact ⟨rfl, by repeat (first | with_reducible exact B5 | with_reducible refine bdrewN ?_ _ | with_reducible refine bal ?_ _)⟩
  · by_cases h2 : y - 1131 < -107
    · have SL := Lib.hid (num_say (xs := [255, (y - 1131) / 256 % 256, (y - 1131) % 256]) (x := y - 1131) (by intro z hz; simp only [List.mem_cons, List.not_mem_nil, or_false] at hz; omega) rfl (by omega) ⟨_, _, rfl, by omega⟩ (by simp) (fun r => long_num (by omega) r (by omega) (by omega)))
      have SS := Lib.hid (num_say (xs := [251 + (-(y - 1131) - 108) / 256, (-(y - 1131) - 108) % 256]) (x := y - 1131) (by intro z hz; simp only [List.mem_cons, List.not_mem_nil, or_false] at hz; omega) rfl (by omega) ⟨_, _, rfl, by omega⟩ (by simp) (fun r => minus_num (by omega) r (by omega) (by omega)))
      go_wp2_with fail
      refine (Run_is (n := 1) _ SL.out.2 SL.out.1 rfl).mono ?_; rintro e w4 ⟨A4, c4, rfl, hs4, hb4⟩
      go_wp2_with fail
      refine (Run_is (n := 1) _ SS.out.2 SS.out.1 rfl).mono ?_; rintro e w5 ⟨A5, c5, rfl, hs5, hb5⟩
      have hs4' := hs4.below hb5
      have B5 := btr (W := w) (btr (W := w) (by repeat (first | with_reducible exact hb1 | with_reducible refine bal ?_ _)) hb4) hb5
      clear hb4 hb5 hs4 k1 k2 k3 ks ha SL SS
      go_wp2_with fail
      refine (sameSg_any _ _ 1 1 _ _ [⟨1, y - 1131, 0, 0, 0⟩] _ (by omega) (hs4'.below (bal (Below.refl _ _) _)) (sl_newN (sgs [⟨1, y - 1131, 0, 0, 0⟩]) rfl rfl)).mono ?_; rintro e w6 ⟨rfl, q6, rfl⟩
      have hs5' := hs5.below (bdrewN (bal (Below.refl _ _) (.cells #[.int .i64 1, .int .i64 (y - 1131), .int .i64 0, .int .i64 0, .int .i64 0] 32)) q6)
      have hs4'' := hs4'.below (bdrewN (bal (Below.refl _ _) (.cells #[.int .i64 1, .int .i64 (y - 1131), .int .i64 0, .int .i64 0, .int .i64 0] 32)) q6)
      go_wp2_with fail
      refine (sameSg_any _ _ 1 1 _ _ [⟨1, y - 1131, 0, 0, 0⟩] _ (by omega) hs5' hs4'').mono ?_; rintro e w7 ⟨rfl, q7, rfl⟩
      go_wp2_with fail
      go_ret
      exact ⟨rfl, by repeat (first | with_reducible exact B5 | with_reducible refine bdrewN ?_ _ | with_reducible refine bal ?_ _)⟩
    · have SL := Lib.hid (num_say (xs := [255, (y - 1131) / 256 % 256, (y - 1131) % 256]) (x := y - 1131) (by intro z hz; simp only [List.mem_cons, List.not_mem_nil, or_false] at hz; omega) rfl (by omega) ⟨_, _, rfl, by omega⟩ (by simp) (fun r => long_num (by omega) r (by omega) (by omega)))
      have SS := Lib.hid (num_say (xs := [139 + (y - 1131)]) (x := y - 1131) (by intro z hz; simp only [List.mem_cons, List.not_mem_nil, or_false] at hz; omega) rfl (by omega) ⟨_, _, rfl, by omega⟩ (by simp) (fun r => short_num (by omega) r (by omega)))
      go_wp2_with fail
      refine (Run_is (n := 1) _ SL.out.2 SL.out.1 rfl).mono ?_; rintro e w4 ⟨A4, c4, rfl, hs4, hb4⟩
      go_wp2_with fail
      refine (Run_is (n := 1) _ SS.out.2 SS.out.1 rfl).mono ?_; rintro e w5 ⟨A5, c5, rfl, hs5, hb5⟩
      have hs4' := hs4.below hb5
      have B5 := btr (W := w) (btr (W := w) (by repeat (first | with_reducible exact hb1 | with_reducible refine bal ?_ _)) hb4) hb5
      clear hb4 hb5 hs4 k1 k2 k3 ks ha SL SS
      go_wp2_with fail
      refine (sameSg_any _ _ 1 1 _ _ [⟨1, y - 1131, 0, 0, 0⟩] _ (by omega) (hs4'.below (bal (Below.refl _ _) _)) (sl_newN (sgs [⟨1, y - 1131, 0, 0, 0⟩]) rfl rfl)).mono ?_; rintro e w6 ⟨rfl, q6, rfl⟩
      have hs5' := hs5.below (bdrewN (bal (Below.refl _ _) (.cells #[.int .i64 1, .int .i64 (y - 1131), .int .i64 0, .int .i64 0, .int .i64 0] 32)) q6)
      have hs4'' := hs4'.below (bdrewN (bal (Below.refl _ _) (.cells #[.int .i64 1, .int .i64 (y - 1131), .int .i64 0, .int .i64 0, .int .i64 0] 32)) q6)
      go_wp2_with fail
      refine (sameSg_any _ _ 1 1 _ _ [⟨1, y - 1131, 0, 0, 0⟩] _ (by omega) hs5' hs4'').mono ?_; rintro e w7 ⟨rfl, q7, rfl⟩
      go_wp2_with fail
      go_ret
      exact ⟨rfl, by repeat (first | with_reducible exact B5 | with_reducible refine bdrewN ?_ _ | with_reducible refine bal ?_ _)⟩
end Go.Proofs.Ytbpeoejjjllieaa
