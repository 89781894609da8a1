/- The walk of PathJoins: it returns true. -/
import Derived.Test.YtpompbpdhahljaaKnown25
import Derived.Test.YtpompbpdhahljaaMade
import Derived.Deep.DeepCutAuto
namespace Go.Proofs.Ytpompbpdhahljaa
open Go.RowKit

set_option maxRecDepth 100000 in
set_option maxHeartbeats 4000000 in
theorem PathJoins_any (A : Option Addr) (n c : Nat) (A0 : Option Addr) (n0 c0 : Nat) (w : World) (h : InA w A n) (hnc : n ≤ c) (hcm : c ≤ 9223372036854775807) (h0 : InA w A0 n0) (hnc0 : n0 ≤ c0) (hcm0 : c0 ≤ 9223372036854775807) :
    Calls Try.prog 7 #[.slice A n c, .slice A0 n0 c0] w fun e w' => e = .returned (.bool true) ∧ Below w.heap.size w w' := by
  go_enter Try.func7, Try.ntmps7
  go_wp2_with fail
  refine (known25_any _).mono ?_; rintro e w1 ⟨rfl, hb1⟩
  go_wp2_with fail
  refine (Made_any A n c true w1 (h.below hb1) hnc hcm).mono ?_; rintro e w2 ⟨l, A2, c2, rfl, hown2, hmd2, hb2⟩
  have B2 : Below w.heap.size w w2 := btr hb1 hb2
  have hp2 := own_sl hown2
  have hc2 := own_cap hown2
  clear hb1 hb2 hown2
  go_wp2_with fail
  refine (Made_any A0 n0 c0 true w2 (h0.below B2) hnc0 hcm0).mono ?_; rintro e w3 ⟨m, A3, c3, rfl, hown3, hmd3, hb3⟩
  have B3 : Below w.heap.size w w3 := btr B2 hb3
  have hp3 := hp2.below hb3
  have hq3 := own_sl hown3
  have hc3 := own_cap hown3
  have hl12 := hmd2.2.1
  have hm12 := hmd3.2.1
  obtain ⟨J, hJ, hJl, hJm, hJe, hJc⟩ := joins hmd2.may hmd3.may (by omega)
  have HJ := Lib.hid hJ
  have HJM := Lib.hid hJm
  have HJC := Lib.hid hJc
  have HN1 := Lib.hid (join_nil hmd2.may)
  have HN2 := Lib.hid (nil_join hmd3.may)
  obtain ⟨el, hel⟩ : ∃ el, edgesL l = el := ⟨_, rfl⟩
  obtain ⟨em, hem⟩ : ∃ em, edgesL m = em := ⟨_, rfl⟩
  rw [hel, hem] at hJe
  have HEL := Lib.hid hel
  have HEM := Lib.hid hem
  have HJE := Lib.hid hJe
  clear hb3 hown3 hp2 B2 hJ hJm hJe hJc hel hem hmd2 hmd3
  go_wp2_with fail
  refine (Join_any _ _ _ _ _ _ l m _ _ (by omega) (by omega) hc2 hp3 hq3 HJ.out).mono ?_; rintro e w4 ⟨A4, c4, rfl, hown4, hb4⟩
  have B4 := btr B3 hb4
  have hp4 := hp3.below hb4
  have hq4 := hq3.below hb4
  have hr4 := own_sl hown4
  clear hb4 hown4 hp3 hq3 B3
  go_wp2_with fail
  refine (Join_any _ _ _ _ _ _ l [] _ _ (by omega) (by omega) hc2 hp4 (show Sl w4 5 none 0 (sgs []) from Sl.nil_) HN1.out).mono ?_; rintro e w5 ⟨A5, c5, rfl, hown5, hb5⟩
  have B5 := btr B4 hb5
  have hp5 := hp4.below hb5
  have hq5 := hq4.below hb5
  have hr5 := hr4.below hb5
  have ha5 := own_sl hown5
  clear hb5 hown5 hp4 hq4 hr4 B4
  go_wp2_with fail
  refine (Join_any _ _ _ _ _ _ [] m _ _ (by omega) (by omega) (Nat.le_refl _) (show Sl w5 5 none 0 (sgs []) from Sl.nil_) hq5 HN2.out).mono ?_; rintro e w6 ⟨A6, c6, rfl, hown6, hb6⟩
  have B6 := btr B5 hb6
  have hp6 := hp5.below hb6
  have hq6 := hq5.below hb6
  have hr6 := hr5.below hb6
  have ha6 := ha5.below hb6
  have hb6' := own_sl hown6
  clear hb6 hown6 hp5 hq5 hr5 ha5 B5
  go_wp2_with fail
  refine (sameSg_any _ _ _ _ _ _ l _ (by omega) ha6 hp6).mono ?_; rintro e w7 ⟨rfl, q7, rfl⟩
  go_wp2_with fail
  refine (sameSg_any _ _ _ _ _ _ m _ (by omega) (hb6'.drewN q7) (hq6.drewN q7)).mono ?_; rintro e w8 ⟨rfl, q8, rfl⟩
  go_wp2_with fail
  refine (path_May_any _ _ _ J _ (by omega) (hr6.drewN (q7 + q8))).mono ?_; rintro e w9 ⟨rfl, hb9⟩
  have B9 := btr (bdrewN B6 (q7 + q8)) hb9
  have hb9' := btr (bdrewN (Below.refl _ w6) (q7 + q8)) hb9
  rw [HJM.out]
  have hp9 := hp6.below hb9'
  have hq9 := hq6.below hb9'
  have hr9 := hr6.below hb9'
  clear hb9 hb9' hp6 hq6 hr6 ha6 hb6' B6
  have hr0 := own_new (w := w9) (t := 25) (n := 0) (s := 7) (base := w9.heap.size) [] rfl rfl (Nat.le_refl _) (by omega)
  go_wp2_with fail
  refine (PEdges_any _ _ _ l el _ (by omega) (hp9.below (bal (Below.refl _ _) _)) HEL.out).mono ?_; rintro e w10 ⟨A10, c10, rfl, hown10, hb10, hel5⟩
  have hr10 := own_below hr0 hb10
  have b10 : Below w9.heap.size w9 w10 := btr (bal (Below.refl _ _) _) hb10
  clear hr0 hb10
  go_wp2_with (at_builtin; refine wpList_app rfl _ _ 30 rfl w9.heap.size edT rfl hr10 (eds el) rfl (own_sl hown10) (oneCell_eds _) (by omega) b10.size ?_; intro A11 c11 w11 hown11 hg11 hat11; have b11 := grown_below b10 hg11 hr10; rw [Nat.zero_add] at hown11)
  clear hr10 hown10 hg11 hat11 b10
  refine (PEdges_any _ _ _ m em _ (by omega) (hq9.below b11) HEM.out).mono ?_; rintro e w12 ⟨A12, c12, rfl, hown12, hb12, hem5⟩
  have hr12 := own_below hown11 hb12
  have b12 := btr b11 hb12
  clear hown11 hb12 b11
  go_upto_region 10 with (at_builtin; refine wpList_app rfl _ _ 30 rfl w9.heap.size edT rfl hr12 (eds em) rfl (own_sl hown12) (oneCell_eds _) (by omega) b12.size ?_; intro A13 c13 w13 hown13 hg13 hat13; have b13 := grown_below b12 hg13 hr12)
  have hrow : Sl w13 7 A13 (el.length + em.length) (eds (el ++ em)) := by rw [eds_app]; exact own_sl hown13
  have hp13 := hp9.below b13
  have hq13 := hq9.below b13
  have hr13 := hr9.below b13
  have B13 := btr B9 b13
  clear hr12 hown12 hg13 hat13 b12 hown13 b13 hp9 hq9 hr9 B9
  go_cut [14] (fun s wx => ∃ bl : Bool, Hid (bl = decide (lastK l = 1 ∧ m ≠ [])) ∧ s = .bool bl ∧ wx = w13)
  case first =>
    by_cases hm0 : m = []
    · subst hm0
      go_wp2_with fail
      go_meet
      exact ⟨_, Lib.hid (by simp), rfl, rfl⟩
    · have hmp : 0 < m.length := List.length_pos_iff.2 hm0
      have hd1 : decide (0 < m.length) = true := by simp; omega
      by_cases hl0 : l = []
      · subst hl0
        go_wp2_with fail
        go_meet
        exact ⟨_, Lib.hid (by simp [lastK]), rfl, rfl⟩
      · have hlp : 0 < l.length := List.length_pos_iff.2 hl0
        have hd2 : decide (0 < l.length) = true := by simp; omega
        obtain ⟨b, off, rfl, hb, f0, -⟩ := hp13.sg (l.length - 1) (by omega) (by omega)
        have hlk := (last_get (l := l) (by omega)).1
        rw [← hlk] at f0
        have hl1 : 1 ≤ l.length := hlp
        clear hlk
        go_wp2_with fail
        go_meet
        refine ⟨_, Lib.hid ?_, rfl, rfl⟩
        simp [hm0]
        rfl
  case rest =>
    obtain ⟨bl, hbl, rfl, rfl⟩ := hcut
    obtain ⟨na, hna⟩ : ∃ na, (ctsL l).length = na := ⟨_, rfl⟩
    obtain ⟨nb, hnb⟩ : ∃ nb, (ctsL m).length = nb := ⟨_, rfl⟩
    obtain ⟨nj, hnj⟩ : ∃ nj, (ctsL J).length = nj := ⟨_, rfl⟩
    have hjc := HJC.out
    rw [hna, hnb, hnj] at hjc
    have hna3 : na ≤ 300 := by rw [← hna]; have := cts_len l; omega
    have hnb3 : nb ≤ 300 := by rw [← hnb]; have := cts_len m; omega
    have HNA := Lib.hid hna
    have HNB := Lib.hid hnb
    have HNJ := Lib.hid hnj
    have HJC2 := Lib.hid hjc
    clear hna hnb hnj hjc
    go_wp2_with fail
    refine (Contours_any _ _ _ l (ctsL l) _ (by omega) hp13 rfl).mono ?_; rintro e w14 ⟨A14, c14, rfl, -, hb14⟩
    rw [HNA.out]
    have hq14 := hq13.below hb14
    have hr14 := hr13.below hb14
    have hs14 := hrow.below hb14
    have B14 := btr B13 hb14
    clear hb14 hq13 hr13 hrow B13 hp13
    go_wp2_with fail
    refine (Contours_any _ _ _ m (ctsL m) _ (by omega) hq14 rfl).mono ?_; rintro e w15 ⟨A15, c15, rfl, -, hb15⟩
    rw [HNB.out]
    have hr15 := hr14.below hb15
    have hs15 := hs14.below hb15
    have B15 := btr B14 hb15
    clear hb15 hr14 hs14 B14 hq14
    cases bl
    rotate_left
    · have hlone : lastK l = 1 ∧ m ≠ [] := of_decide_eq_true hbl.out.symm
      have hjj : (na : Int) + (nb : Int) - 1 = (nj : Int) := by have := HJC2.out; rw [if_pos hlone] at this; omega
      clear hlone
      go_wp2_with fail
      refine (PEdges_any _ _ _ J _ _ (by omega) hr15 HJE.out).mono ?_; rintro e w16 ⟨A16, c16, rfl, hown16, hb16, hj5⟩
      have hr16 := hr15.below hb16
      have hs16 := hs15.below hb16
      have hu16 := own_sl hown16
      have B16 := btr B15 hb16
      clear hb16 hr15 hs15 B15 hown16
      have hls : (el ++ em).length = el.length + em.length := List.length_append
      rw [hls] at hu16 ⊢
      clear hls
      go_wp2_with fail
      refine (sameEd_any _ _ _ _ _ _ (el ++ em) _ (by omega) hu16 hs16).mono ?_; rintro e w17 ⟨rfl, q17, rfl⟩
      go_wp2_with fail
      refine (Contours_any _ _ _ J (ctsL J) _ (by omega) (hr16.drewN q17) rfl).mono ?_; rintro e w18 ⟨A18, c18, rfl, -, hb18⟩
      rw [HNJ.out]
      go_wp2
      go_ret
      exact ⟨rfl, btr (bdrewN B16 q17) hb18⟩
    · have hlone : ¬ (lastK l = 1 ∧ m ≠ []) := of_decide_eq_false hbl.out.symm
      have hjj : (na : Int) + (nb : Int) = (nj : Int) := by have := HJC2.out; rw [if_neg hlone] at this; omega
      clear hlone
      go_wp2_with fail
      refine (PEdges_any _ _ _ J _ _ (by omega) hr15 HJE.out).mono ?_; rintro e w16 ⟨A16, c16, rfl, hown16, hb16, hj5⟩
      have hr16 := hr15.below hb16
      have hs16 := hs15.below hb16
      have hu16 := own_sl hown16
      have B16 := btr B15 hb16
      clear hb16 hr15 hs15 B15 hown16
      have hls : (el ++ em).length = el.length + em.length := List.length_append
      rw [hls] at hu16 ⊢
      clear hls
      go_wp2_with fail
      refine (sameEd_any _ _ _ _ _ _ (el ++ em) _ (by omega) hu16 hs16).mono ?_; rintro e w17 ⟨rfl, q17, rfl⟩
      go_wp2_with fail
      refine (Contours_any _ _ _ J (ctsL J) _ (by omega) (hr16.drewN q17) rfl).mono ?_; rintro e w18 ⟨A18, c18, rfl, -, hb18⟩
      rw [HNJ.out]
      go_wp2
      go_ret
      exact ⟨rfl, btr (bdrewN B16 q17) hb18⟩
end Go.Proofs.Ytpompbpdhahljaa
