/- The walk of DashBack: it returns true. -/
import Derived.Test.YtacolepcpbhceaaDash7
import Derived.Test.YtacolepcpbhceaaBackDP
import Derived.Test.YtacolepcpbhceaaAdd2
import Derived.Test.YtacolepcpbhceaaBox2
namespace Go.Proofs.Ytacolepcpbhceaa
open Go.RowKit

theorem Join_is (A B : Option Addr) (n c m d : Nat) (l k J : List Sg) (mj : Nat) (w : World) (hm : n ≤ 100000) (hm2 : m ≤ 100000) (hnc : n ≤ c) (h : Sl w 5 A n (sgs l)) (h2 : Sl w 5 B m (sgs k)) (hE : joinL l k = (J, 0)) (hj : J.length = mj) :
    Calls Try.prog 22 #[.slice A n c, .slice B m d] w fun e w' => ∃ A' c', e = .returned (.tuple #[.slice A' mj c', .int .i64 0]) ∧
      w'.ownsRow w.heap.size 36 5 (.slice A' mj c') mj (sgs J) ∧ Below w.heap.size w w' := by
  subst hj
  exact Join_any A B n c m d l k (J, 0) w hm hm2 hnc h h2 hE
theorem cut_err {on : List Int} {f : Int} {l L : List Sg} {er : Int} (h : cutL on f l = (L, er)) : er = 0 ∨ er = 5 := by
  unfold cutL at h
  split at h
  · exact .inl (Prod.mk.inj h).2.symm
  · split at h
    · exact .inr (Prod.mk.inj h).2.symm
    · exact .inl (Prod.mk.inj h).2.symm

set_option maxRecDepth 100000 in
set_option maxHeartbeats 4000000 in
theorem DashBack_any (A : Option Addr) (n c : Nat) (A' : Option Addr) (n' c' : Nat) (A'' : Option Addr) (n'' c'' : Nat) (from_ : Int) (w : World) (h : InA w A n) (hnc : n ≤ c) (hcm : c ≤ 9223372036854775807)
    (h' : InA w A' n') (hnc' : n' ≤ c') (hcm' : c' ≤ 9223372036854775807) (h'' : InA w A'' n'') (hnc'' : n'' ≤ c'') (hcm'' : c'' ≤ 9223372036854775807) :
    Calls Try.prog 8 #[.slice A n c, .slice A' n' c', .slice A'' n'' c'', .int .i64 from_] w fun e w' => e = .returned (.bool true) ∧ Below w.heap.size w w' := by
  go_enter Try.func8, Try.ntmps8
  go_wp2_with fail
  refine (known35_any _).mono ?_; rintro e w1 ⟨rfl, hb1⟩
  go_wp2_with fail
  refine (Made_any A n c false w1 (h.below hb1) hnc hcm).mono ?_; rintro e w2 ⟨l, A2, c2, rfl, hown2, hmd2, hb2⟩
  have B2 : Below w.heap.size w w2 := btr hb1 hb2
  have hp2 := own_sl hown2
  have hlc := own_cap hown2
  clear hb1 hb2 hown2
  go_wp2_with fail
  refine (Made_any A'' n'' c'' false w2 (h''.below B2) hnc'' hcm'').mono ?_; rintro e w3 ⟨r, A3, c3, rfl, hown3, hmd3, hb3⟩
  have B3 := btr B2 hb3
  have hp3 := hp2.below hb3
  have hq3 := own_sl hown3
  clear hb3 hown3 hp2 B2
  go_wp2_with fail
  refine (Lengths_any A' n' c' w3 (h'.below B3) hnc' hcm').mono ?_; rintro e w4 ⟨on, A4, c4, rfl, hown4, hlo, hb4⟩
  have B4 := btr B3 hb4
  have hp4 := hp3.below hb4
  have hq4 := hq3.below hb4
  have ho4 := own_sl hown4
  clear hb4 hown4 hp3 hq3 B3
  obtain ⟨J, hJ, hJl, hJm, hJs, hJc⟩ := join_cts hmd2.may hmd3.may (by have := hmd2.2.1; have := hmd3.2.1; omega)
  have hlm := hmd2.may
  have hrm := hmd3.may
  have hlk := hmd2.2.2.2 rfl
  have hrk := hmd3.2.2.2 rfl
  have hJk : ∀ s ∈ J, s.kind ≠ 3 := fun s hs => (hJs s hs).elim (hlk s) (hrk s)
  have hl12 := hmd2.2.1
  have hr12 := hmd3.2.1
  have hJ24 : J.length ≤ 24 := by omega
  obtain ⟨ll, hll⟩ : ∃ x, l.length = x := ⟨_, rfl⟩
  obtain ⟨rl, hrl⟩ : ∃ x, r.length = x := ⟨_, rfl⟩
  obtain ⟨jl, hjl⟩ : ∃ x, J.length = x := ⟨_, rfl⟩
  obtain ⟨ol, hol⟩ : ∃ x, on.length = x := ⟨_, rfl⟩
  rw [hll] at hl12 hp4 hlc ⊢
  rw [hrl] at hr12 hq4 ⊢
  rw [hjl] at hJ24
  rw [hol] at ho4 ⊢
  have HJ := Lib.hid hJ
  have HJM := Lib.hid hJm
  have HJC := Lib.hid hJc
  have HLM := Lib.hid hlm
  have HRM := Lib.hid hrm
  have HLK := Lib.hid hlk
  have HRK := Lib.hid hrk
  have HJK := Lib.hid hJk
  have HLL := Lib.hid hll
  have HRL := Lib.hid hrl
  have HJL := Lib.hid hjl
  have HOL := Lib.hid hol
  have HON : Hid (OnOK on) := hlo.1
  clear hmd2 hmd3 hJ hJm hJs hJc hlm hrm hlk hrk hJk hll hrl hjl hol hlo hJl
  go_wp2_with fail
  refine (Place_any from_ 1000 _ (by omega) (by omega)).mono ?_; rintro e w' ⟨rfl, rfl⟩
  have hf : 0 ≤ placeI from_ 1000 ∧ placeI from_ 1000 < 1000 := by unfold placeI; omega
  generalize placeI from_ 1000 = f at *
  go_wp2_with fail
  refine (Join_is A2 A3 ll c2 rl c3 l r J jl _ (by omega) (by omega) hlc hp4 hq4 HJ.out HJL.out).mono ?_; rintro e w5 ⟨A5, c5, rfl, hown5, hb5⟩
  have B5 := btr B4 hb5
  have hp5 := hp4.below hb5
  have hq5 := hq4.below hb5
  have ho5 := ho4.below hb5
  have hj5 := own_sl hown5
  clear hb5 hown5 hp4 hq4 ho4 B4
  obtain ⟨⟨L, er⟩, hL⟩ : ∃ p, cutL on f l = p := ⟨_, rfl⟩
  obtain ⟨⟨R, eR⟩, hR⟩ : ∃ p, cutL on f r = p := ⟨_, rfl⟩
  obtain ⟨⟨C, eC⟩, hC⟩ : ∃ p, cutL on f J = p := ⟨_, rfl⟩
  have herr := cut_err hL
  have herR := cut_err hR
  obtain ⟨lL, hlL⟩ : ∃ x, L.length = x := ⟨_, rfl⟩
  obtain ⟨lR, hlR⟩ : ∃ x, R.length = x := ⟨_, rfl⟩
  obtain ⟨lC, hlC⟩ : ∃ x, C.length = x := ⟨_, rfl⟩
  have HL := Lib.hid hL
  have HR := Lib.hid hR
  have HC := Lib.hid hC
  have HLL2 := Lib.hid hlL
  have HLR2 := Lib.hid hlR
  have HLC2 := Lib.hid hlC
  have HERR := Lib.hid herr
  have HERR2 := Lib.hid herR
  clear hL hR hC hlL hlR hlC herr herR
  go_wp2_with fail
  refine (Cut_is _ _ _ _ _ _ l on f L er lL _ hp5 HLM.out HLK.out ho5 HON.out (by omega) HL.out HLL2.out).mono ?_
  rintro e w6 ⟨A6, c6, rfl, hown6, hb6⟩
  have B6 := btr B5 hb6
  have hq6 := hq5.below hb6
  have ho6 := ho5.below hb6
  have hj6 := hj5.below hb6
  have hx6 := own_sl hown6
  clear hb6 hown6 hp5 hq5 ho5 hj5 B5
  go_wp2_with fail
  refine (Cut_is _ _ _ _ _ _ r on f R eR lR _ hq6 HRM.out HRK.out ho6 HON.out (by omega) HR.out HLR2.out).mono ?_
  rintro e w7 ⟨A7, c7, rfl, hown7, hb7⟩
  have B7 := btr B6 hb7
  have ho7 := ho6.below hb7
  have hj7 := hj6.below hb7
  have hx7 := hx6.below hb7
  have hy7 := own_sl hown7
  clear hb7 hown7 hq6 ho6 hj6 hx6 B6
  go_wp2_with fail
  refine (Cut_is _ _ _ _ _ _ J on f C eC lC _ hj7 HJM.out HJK.out ho7 HON.out (by omega) HC.out HLC2.out).mono ?_
  rintro e w8 ⟨A8, c8, rfl, hown8, hb8⟩
  have B8 := btr B7 hb8
  have hj8 := hj7.below hb8
  have hx8 := hx7.below hb8
  have hy8 := hy7.below hb8
  have hz8 := own_sl hown8
  clear hb8 hown8 ho7 hj7 hx7 hy7 B7
  by_cases hol0 : ol = 0
  · have hb0 : ((ol : Int) == 0) = true := by simp [hol0]
    have hb1 : (ol == 0) = true := by simp [hol0]
    have hle : ol ≤ 0 := by omega
    clear hol0
    go_wp2
    go_ret
    exact ⟨rfl, B8⟩
  · have hne : on ≠ [] := by
      rintro rfl
      exact hol0 HOL.out.symm
    have hb0 : ((ol : Int) == 0) = false := by simp; omega
    have hb1 : (ol == 0) = false := by simp; omega
    have hrow : Row on := by
      rcases HON.out with h0 | h0
      · exact absurd h0 hne
      · exact h0.1
    have hle : 1 ≤ ol := by omega
    have HRW := Lib.hid hrow
    rcases back_cut (f := f) hne (join_dash HJC.out on f) with ⟨h1, h2⟩ | ⟨h1, h2, h3, h4⟩
    · rw [h1] at HC
      obtain ⟨hc1, hc2⟩ := Prod.mk.inj HC.out
      subst hc1; subst hc2
      obtain rfl : 0 = lC := HLC2.out
      have her := HERR.out
      have heR := HERR2.out
      clear h1 h2 hol0 hne hrow
      rcases her with rfl | rfl
      all_goals
        rcases heR with rfl | rfl
        all_goals
          go_wp2
          go_ret
          exact ⟨rfl, B8⟩
    · rw [h1] at HC
      rw [h2] at HL
      rw [h3] at HR
      obtain ⟨hc1, hc2⟩ := Prod.mk.inj HC.out
      obtain ⟨hl1, hl2⟩ := Prod.mk.inj HL.out
      obtain ⟨hr1, hr2⟩ := Prod.mk.inj HR.out
      subst hc2; subst hl2; subst hr2
      rw [hl1, hr1] at hc1 h4
      have hlen : lL + lR ≤ 300 := by rw [List.length_append, HLL2.out, HLR2.out] at h4; exact h4
      have hlC : lC = lL + lR := by rw [← HLC2.out, ← hc1, List.length_append, HLL2.out, HLR2.out]
      subst hlC
      obtain ⟨⟨bJ, okJ⟩, hbJ⟩ : ∃ p, boxL J = p := ⟨_, rfl⟩
      obtain ⟨⟨bC, okC⟩, hbC⟩ : ∃ p, boxL C = p := ⟨_, rfl⟩
      have hin : okC = true → okJ = true ∧ bJ.x0 ≤ bC.x0 ∧ bJ.y0 ≤ bC.y0 ∧ bC.x1 ≤ bJ.x1 ∧ bC.y1 ≤ bJ.y1 := by
        rintro rfl
        have hCd : C = dashL on f J := by rw [← hc1, join_dash HJC.out, hl1, hr1]
        obtain ⟨b0, hb0, i1, i2, i3, i4⟩ := box_in HJM.out HJK.out hrow hCd hbC
        rw [hbJ] at hb0
        obtain ⟨e1, e2⟩ := Prod.mk.inj hb0
        subst e1
        exact ⟨e2, i1, i2, i3, i4⟩
      have HBJ := Lib.hid hbJ
      have HBC := Lib.hid hbC
      have HIN := Lib.hid hin
      have HC1 := Lib.hid hc1
      clear h1 h2 h3 h4 hol0 hne hrow hc1 hl1 hr1 hbJ hbC hin
      go_wp2_with fail
      refine (Box_any _ _ _ J _ _ (by omega) hj8 HBJ.out).mono ?_; rintro e w9 ⟨rfl, hb9⟩
      have hx9 := hx8.below hb9
      have hy9 := hy8.below hb9
      have hz9 := hz8.below hb9
      have B9 := btr B8 hb9
      clear hb9 hx8 hy8 hz8 hj8 B8
      go_wp2_with fail
      refine (Box_any _ _ _ C _ _ (by omega) hz9 HBC.out).mono ?_; rintro e w10 ⟨rfl, hb10⟩
      have hx10 := hx9.below hb10
      have hy10 := hy9.below hb10
      have hz10 := hz9.below hb10
      have B10 := btr B9 hb10
      clear hb10 hx9 hy9 hz9 B9
      have hsame : sgs L ++ sgs R = sgs C := by rw [← HC1.out, sgs_app]
      have HSM := Lib.hid hsame
      clear hsame
      cases okC
      · go_wp2_with (first
          | (at_builtin; refine wpList_app rfl _ _ 24 rfl w10.heap.size sgT2 rfl hown11 (sgs R) rfl (hy10.below hb11) (oneCell_sgs _) (by omega) hb11.size ?_; intro A12 c12 w12 hown12 hg12 hat12; have hb12 := grown_below hb11 hg12 hown11; rw [HSM.out] at hown12; clear hg12 hat12)
          | (at_builtin; refine wpList_app rfl _ _ 24 rfl w10.heap.size sgT2 rfl (own_empty w10 _ _ _ _ (Nat.le_refl _) rfl) (sgs L) rfl (hx10.below (bal (Below.refl _ _) _)) (oneCell_sgs _) (by omega) (by simp) ?_; intro A11 c11 w11 hown11 hg11 hat11; have hb11 := grown_below (bal (Below.refl w10.heap.size w10) _) hg11 (own_empty w10 _ 5 _ _ (Nat.le_refl _) rfl); rw [Nat.zero_add, List.nil_append] at hown11; clear hg11 hat11)
          | (go_at_call 18; refine (sameSg_any _ _ _ _ _ _ C _ (by omega) (hz10.below hb12) (own_sl hown12)).mono ?_; rintro e w13 ⟨rfl, q13, rfl⟩))
        go_ret
        exact ⟨rfl, bdrewN (btr B10 hb12) _⟩
      · obtain ⟨rfl, i1, i2, i3, i4⟩ := HIN.out rfl
        go_wp2_with (first
          | (at_builtin; refine wpList_app rfl _ _ 24 rfl w10.heap.size sgT2 rfl hown11 (sgs R) rfl (hy10.below hb11) (oneCell_sgs _) (by omega) hb11.size ?_; intro A12 c12 w12 hown12 hg12 hat12; have hb12 := grown_below hb11 hg12 hown11; rw [HSM.out] at hown12; clear hg12 hat12)
          | (at_builtin; refine wpList_app rfl _ _ 24 rfl w10.heap.size sgT2 rfl (own_empty w10 _ _ _ _ (Nat.le_refl _) rfl) (sgs L) rfl (hx10.below (bal (Below.refl _ _) _)) (oneCell_sgs _) (by omega) (by simp) ?_; intro A11 c11 w11 hown11 hg11 hat11; have hb11 := grown_below (bal (Below.refl w10.heap.size w10) _) hg11 (own_empty w10 _ 5 _ _ (Nat.le_refl _) rfl); rw [Nat.zero_add, List.nil_append] at hown11; clear hg11 hat11)
          | (go_at_call 18; refine (sameSg_any _ _ _ _ _ _ C _ (by omega) (hz10.below hb12) (own_sl hown12)).mono ?_; rintro e w13 ⟨rfl, q13, rfl⟩))
        go_ret
        exact ⟨rfl, bdrewN (btr B10 hb12) _⟩
end Go.Proofs.Ytacolepcpbhceaa
