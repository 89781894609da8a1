/- A closed path by numbers: tympanlaw25.Loop. -/
import Derived.Test.YtkkjbchgeafgkaaMade
import Derived.Test.YtkkjbchgeafgkaaStrokeRoundsP
namespace Go.Proofs.Ytkkjbchgeafgkaa
open Go.RowKit

/-- The points lie on a small page. -/
def SmallQ (Q : Nat → Int × Int) (n : Nat) : Prop := ∀ i, i ≤ n → -32 ≤ (Q i).1 ∧ (Q i).1 < 288 ∧ -32 ≤ (Q i).2 ∧ (Q i).2 < 288
/-- One point more. -/
def moreQ (Q : Nat → Int × Int) (n : Nat) (q : Int × Int) : Nat → Int × Int := fun i => if i = n then q else Q i
theorem openQ_more (Q : Nat → Int × Int) (n : Nat) (q : Int × Int) : openQ (moreQ Q (n + 1) q) (n + 1) = openQ Q n ++ [lineQ q] := by
  unfold openQ
  rw [List.range_succ, List.map_append, List.map_singleton, List.cons_append]
  have h0 : moreQ Q (n + 1) q 0 = Q 0 := by unfold moreQ; rw [if_neg (by omega)]
  have h1 : moreQ Q (n + 1) q (n + 1) = q := by unfold moreQ; rw [if_pos rfl]
  have h2 : (List.range n).map (fun i => lineQ (moreQ Q (n + 1) q (i + 1))) = (List.range n).map fun i => lineQ (Q (i + 1)) := by
    apply List.map_congr_left
    intro i hi
    rw [List.mem_range] at hi
    unfold moreQ; rw [if_neg (by omega)]
  rw [h0, h1, h2]
theorem SmallQ.more {Q : Nat → Int × Int} {n : Nat} (h : SmallQ Q n) {q : Int × Int} (hq : -32 ≤ q.1 ∧ q.1 < 288 ∧ -32 ≤ q.2 ∧ q.2 < 288) : SmallQ (moreQ Q (n + 1) q) (n + 1) := by
  intro i hi
  unfold moreQ
  split
  · exact hq
  · exact h i (by omega)
theorem openQ_len (Q : Nat → Int × Int) (n : Nat) : (openQ Q n).length = n + 1 := by simp [openQ]
theorem openQ_one (a b : Int) : openQ (fun _ => (a, b)) 0 = [⟨1, a, b, 0, 0⟩] := rfl
theorem SmallQ.onq {Q : Nat → Int × Int} {n : Nat} (h : SmallQ Q n) : OnQ Q n := fun i hi => by
  obtain ⟨a, b, c, d⟩ := h i hi
  exact ⟨co_iff.2 (by omega), co_iff.2 (by omega)⟩

set_option maxHeartbeats 2000000 in
theorem Loop_any (A : Option Addr) (n c : Nat) (w : World) (h : InA w A n) (hnc : n ≤ c) (hcm : c ≤ 9223372036854775807) :
    Calls Try.prog 11 #[.slice A n c] w
      fun e w' => ∃ (Q : Nat → Int × Int) (k : Nat) (A' : Option Addr) (c' : Nat), e = .returned (.slice A' (k + 2) c') ∧ w'.ownsRow w.heap.size 37 5 (.slice A' (k + 2) c') (k + 2) (sgs (loopQ Q k)) ∧ k ≤ 8 ∧ SmallQ Q k ∧ Below w.heap.size w w' := by
  obtain ⟨g, hg⟩ : ∃ g, g = w.heap.size := ⟨_, rfl⟩
  obtain ⟨W1, hW1⟩ : ∃ W1 : World, W1 = w.alloc (.cells #[.slice A n c] 47) := ⟨_, rfl⟩
  have hLN : LN W1 g := by rw [hW1]; exact LN_new h hnc hcm hg.symm
  have HG := Lib.hid hg
  have hb01 : Below w.heap.size w W1 := by rw [hW1]; exact bal (Below.refl _ _) _
  go_enter Try.func11, Try.ntmps11
  go_wp2_with fail
  rw [← hg, ← hW1]
  clear hg hW1
  refine (Coord_any _ _ hLN).mono ?_; rintro e w2 ⟨⟨a, rfl, ha1, ha2⟩, h2, hg2⟩
  have B2 : Below g W1 w2 := g2b' hg2 (LN_lt hLN)
  clear hg2 hLN
  go_wp2_with fail
  refine (Coord_any _ _ h2).mono ?_; rintro e w3 ⟨⟨b', rfl, hb1, hb2⟩, h3, hg3⟩
  have B3 := B2.trans (g2b' hg3 (LN_lt h2))
  have hgl3 := LN_lt h3
  clear hg3 h2 B2
  go_wp2
  obtain ⟨w4, hw4⟩ : ∃ w4 : World, w4 = w3.alloc (.cells #[.int .i64 1, .int .i64 a, .int .i64 b', .int .i64 0, .int .i64 0] 37) := ⟨_, rfl⟩
  rw [← hw4]
  have h4 : LN w4 g := by rw [hw4]; exact LN_alloc h3 _
  have B4 : Below g W1 w4 := by rw [hw4]; exact B3.alloc (Nat.le_of_lt hgl3) _
  have hown4 : w4.ownsRow (g + 1) 37 5 (.slice (some ⟨w3.heap.size, 0, none⟩) 1 1) 1 (sgs (openQ (fun _ => (a, b')) 0)) := by rw [hw4]; exact own_new (sgs [⟨1, a, b', 0, 0⟩]) rfl rfl hgl3 (by omega)
  have hq4 : SmallQ (fun _ => (a, b')) 0 := fun _ _ => ⟨ha1, ha2, hb1, hb2⟩
  clear hw4 h3 B3 hgl3
  go_loopw [4] (fun p wr => ∃ (Q : Nat → Int × Int) (k : Nat) (A' : Option Addr) (c' : Nat), p = .slice A' (k + 1) c' ∧ LN wr g ∧ wr.ownsRow (g + 1) 37 5 (.slice A' (k + 1) c') (k + 1) (sgs (openQ Q k)) ∧ k ≤ 8 ∧ Hid (SmallQ Q k) ∧ Below g W1 wr) (fun p _ => 12 - lenOf p)
  case atStart => exact ⟨_, 0, _, 1, rfl, h4, hown4, by omega, hq4, B4⟩
  case round =>
    obtain ⟨Q, k, A1, c1, rfl, hN, hown, hk, hqs, hbr⟩ := hrel
    have HN := Lib.hid hN
    have hgl := LN_lt hN
    have hgB : g + 1 ≤ wr.heap.size := hgl
    obtain ⟨A9, n9, c9, hc9, hf9, hn9, hc99, _, _⟩ := hN
    by_cases hgo : 0 < n9 ∧ k < 8
    · obtain ⟨g1, g2⟩ := hgo
      have hd1 : decide (0 < n9) = true := by simp [g1]
      have hd2 : decide (0 < (n9 : Int)) = true := by simp; omega
      have hd3 : decide ((n9 : Int) > 0) = true := by simp; omega
      go_wp2_with fail
      refine (Coord_any _ _ HN.out).mono ?_; rintro e w5 ⟨⟨x, rfl, hx1, hx2⟩, h5, hg5⟩
      have B5 := hbr.trans (g2b' hg5 (LN_lt HN.out))
      have hown5 := own_g hown hg5 (Nat.lt_succ_self g)
      clear hown hg5 hbr hc9 hf9
      go_wp2_with fail
      refine (Coord_any _ _ h5).mono ?_; rintro e w6 ⟨⟨y, rfl, hy1, hy2⟩, h6, hg6⟩
      have B6 := B5.trans (g2b' hg6 (LN_lt h5))
      have hown6 := own_g hown5 hg6 (Nat.lt_succ_self g)
      have hsz6 := LN_lt h6
      clear hown5 hg6 h5 B5
      go_wp2_with (at_builtin; refine wpList_app rfl _ _ 24 rfl (g + 1) sgT0 rfl (own_below hown6 (bal (Below.refl _ _) _)) (sgc ⟨2, x, y, 0, 0⟩) rfl (sl_newN _ (by simp) rfl) (oneCell_sgc _) (by omega) (by simp; omega) ?_; intro A7 c7 w7 hown7 hg7 hat7)
      go_roundw
      case rel =>
        obtain ⟨r1, r2, r3⟩ := seg_end B6 h6 hown6 (Nat.lt_succ_self g) hg7 hown7
        exact ⟨moreQ Q (k + 1) (x, y), k + 1, A7, c7, rfl, r2, by rw [openQ_more]; exact r1, by omega, hqs.out.more ⟨hx1, hx2, hy1, hy2⟩, r3⟩
      case measure => simp [lenOf]; omega
    · have hend : (decide (0 < n9) = false ∧ decide (0 < (n9 : Int)) = false ∧ decide ((n9 : Int) > 0) = false ∧ n9 = 0) ∨ (decide (0 < n9) = true ∧ decide (0 < (n9 : Int)) = true ∧ decide ((n9 : Int) > 0) = true ∧ k = 8 ∧ 0 < n9) := by
        by_cases h0 : 0 < n9
        · right; exact ⟨by simp [h0], by simp; omega, by simp; omega, by omega, h0⟩
        · left; exact ⟨by simp [h0], by simp; omega, by simp; omega, by omega⟩
      clear hgo
      rcases hend with ⟨hd1, hd2, hd3, hd4⟩ | ⟨hd1, hd2, hd3, hd4, hd5⟩
      · go_wp2_with (at_builtin; refine wpList_app rfl _ _ 24 rfl (g + 1) sgT0 rfl (own_below hown (bal (Below.refl _ _) _)) (sgc ⟨4, 0, 0, 0, 0⟩) rfl (sl_newN _ (by simp) rfl) (oneCell_sgc _) (by omega) (by simp; omega) ?_; intro A7 c7 w7 hown7 hg7 hat7)
        go_ret
        obtain ⟨r1, r2, r3⟩ := seg_end hbr HN.out hown (Nat.lt_succ_self g) hg7 hown7
        exact ⟨Q, k, A7, c7, rfl, own_mono (by unfold loopQ; exact r1) (by rw [← HG.out]; omega), hk, hqs.out, hb01.trans (HG.out ▸ r3)⟩
      · subst hd4
        go_wp2_with (at_builtin; refine wpList_app rfl _ _ 24 rfl (g + 1) sgT0 rfl (own_below hown (bal (Below.refl _ _) _)) (sgc ⟨4, 0, 0, 0, 0⟩) rfl (sl_newN _ (by simp) rfl) (oneCell_sgc _) (by omega) (by simp; omega) ?_; intro A7 c7 w7 hown7 hg7 hat7)
        go_ret
        obtain ⟨r1, r2, r3⟩ := seg_end hbr HN.out hown (Nat.lt_succ_self g) hg7 hown7
        exact ⟨Q, 8, A7, c7, rfl, own_mono (by unfold loopQ; exact r1) (by rw [← HG.out]; omega), hk, hqs.out, hb01.trans (HG.out ▸ r3)⟩
end Go.Proofs.Ytkkjbchgeafgkaa
