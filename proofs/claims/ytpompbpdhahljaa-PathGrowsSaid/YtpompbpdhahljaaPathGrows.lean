/- The walk of PathGrows: it returns true. -/
import Derived.Test.YtpompbpdhahljaaKnown25
import Derived.Test.YtpompbpdhahljaaRefAdd2
import Derived.Test.YtpompbpdhahljaaMade
import Derived.Test.YtpompbpdhahljaaGrowP
import Derived.Deep.DeepCutAuto
import Derived.Deep.CutBlock
namespace Go.Proofs.Ytpompbpdhahljaa
open Go.RowKit

set_option maxRecDepth 100000 in
set_option maxHeartbeats 8000000 in
theorem PathGrows_any (A : Option Addr) (n c : Nat) (w : World) (h : InA w A n) (hnc : n ≤ c) (hcm : c ≤ 9223372036854775807) :
    Calls Try.prog 12 #[.slice A n c] w fun e w' => e = .returned (.bool true) ∧ Below w.heap.size w w' := by
  go_enter Try.func12, Try.ntmps12
  go_wp2_with fail
  refine (known25_any _).mono ?_; rintro e w1 ⟨rfl, hb1⟩
  obtain ⟨g, hg⟩ : ∃ g, g = w1.heap.size := ⟨_, rfl⟩
  have hLN : LN (w1.alloc (.cells #[.slice A n c] 29)) g := LN_new (h.below hb1) hnc hcm hg.symm
  have HG := Lib.hid hg
  have hb0 : Below g (w1.alloc (.cells #[.slice A n c] 29)) (w1.alloc (.cells #[.slice A n c] 29)) := Below.refl _ _
  go_wp2_with fail
  rw [← hg]
  clear hg
  go_loopw [4, 5, 6] (fun a b i wr => ∃ (l : List Sg) (A2 B2 : Option Addr) (ca cb k : Nat), l.length ≤ 2 * k ∧ k ≤ 40 ∧ a = .slice A2 l.length ca ∧ b = .slice B2 l.length cb ∧ i = .int .i64 (k : Int) ∧ LN wr g ∧
    wr.ownsRow (g + 1) 45 5 (.slice A2 l.length ca) l.length (sgs l) ∧ wr.ownsRow (g + 1) 45 5 (.slice B2 l.length cb) l.length (sgs l) ∧ Hid (mayB l = true) ∧ Below g (w1.alloc (.cells #[.slice A n c] 29)) wr) (fun _ _ i _ => 40 - (intOf i).toNat)
  case atStart => exact ⟨[], none, none, 0, 0, 0, by simp, by omega, rfl, rfl, rfl, hLN, own_nil, own_nil, rfl, hb0⟩
  case round =>
    obtain ⟨l, A2, B2, ca, cb, k, hl2, hk, rfl, rfl, rfl, hN, hoa, hob, hmy, hbr⟩ := hrel
    have hgl := LN_lt hN
    have hN2 := hN
    obtain ⟨A9, n9, c9, hc9, hf9, hn9, hc99, -, -⟩ := hN2
    by_cases hgo : 0 < n9 ∧ k < 40
    · obtain ⟨hgo1, hgo2⟩ := hgo
      have hd1 : decide (0 < n9) = true := by simp; omega
      have hd2 : decide (k < 40) = true := by simp; omega
      clear hLN hb0
      go_wp2_with fail
      refine (Coord_any _ _ hN).mono ?_; rintro e w2 ⟨⟨x, rfl, hx1, hx2⟩, hN2, hg2⟩
      have b2 := g2b' hg2 hgl
      have hoa2 := own_g hoa hg2 (by omega)
      have hob2 := own_g hob hg2 (by omega)
      clear hg2 hN hoa hob hc9 hf9
      go_wp2_with fail
      refine (Coord_any _ _ hN2).mono ?_; rintro e w3 ⟨⟨y, rfl, hy1, hy2⟩, hN3, hg3⟩
      have b3 := b2.trans (g2b' hg3 (LN_lt hN2))
      have hoa3 := own_g hoa2 hg3 (by omega)
      have hob3 := own_g hob2 hg3 (by omega)
      clear hg3 hN2 hoa2 hob2 b2
      go_wp2_with fail
      refine (Next_any _ _ _ (by omega) hN3).mono ?_; rintro e w4 ⟨⟨v, rfl, hv1, hv2⟩, hN4, hg4⟩
      have b4 := b3.trans (g2b' hg4 (LN_lt hN3))
      have hoa4 := own_g hoa3 hg4 (by omega)
      have hob4 := own_g hob3 hg4 (by omega)
      clear hg4 hN3 hoa3 hob3 b3
      have hgl4 := LN_lt hN4
      have hgl4' : g ≤ w4.heap.size := by omega
      have hgl5 : g + 1 ≤ w4.heap.size := hgl4
      have hcA := own_cap hoa4
      have hcB := own_cap hob4
      have hSa := own_sl hoa4
      have hSb := own_sl hob4
      go_upto_block 2 with (fail)
      go_cut [7, 8, 9, 10] (fun e f a b wx => ∃ (M : List Sg) (er : Int) (C2 D2 : Option Addr) (cc cd : Nat), e = .int .i64 er ∧ f = .int .i64 er ∧ a = .slice C2 M.length cc ∧ b = .slice D2 M.length cd ∧ Hid (Step l (M, er)) ∧
        wx.ownsRow (g + 1) 45 5 (.slice C2 M.length cc) M.length (sgs M) ∧ wx.ownsRow (g + 1) 45 5 (.slice D2 M.length cd) M.length (sgs M) ∧
        wx.ownsRow (g + 1) 45 5 (.slice A2 l.length ca) l.length (sgs l) ∧ wx.ownsRow (g + 1) 45 5 (.slice B2 l.length cb) l.length (sgs l) ∧ LN wx g ∧ Below g wr wx)
      case first =>
        by_cases h0 : v = 0
        · subst h0
          obtain ⟨E, hE⟩ : ∃ E, startL l x y = E := ⟨_, rfl⟩
          have hstep := Lib.hid (show Step l (E.1, E.2) by rw [← hE]; exact grow_start hmy.out (by omega) (by omega) (by omega))
          go_wp2_with fail
          refine (Start_any _ _ _ _ _ l E _ (by omega) hcA hSa hE).mono ?_; rintro e w5 ⟨A5, c5, rfl, hown5, hb5⟩
          have hSb5 := hSb.below hb5
          have hu5 := own_mono hown5 hgl5
          have B5 := b4.trans (hb5.mono hgl4')
          have hN5 := LN_below hN4 hb5
          have hgl6 : g ≤ w5.heap.size := Nat.le_trans hgl4' hb5.size
          have hgl7 : g + 1 ≤ w5.heap.size := Nat.le_trans hgl5 hb5.size
          have ho5 := own_below hoa4 hb5
          have hq5 := own_below hob4 hb5
          clear hb5 hown5
          go_wp2_with fail
          refine (ref_Start_any _ _ _ _ _ l E _ (by omega) hcB hSb5 hE).mono ?_; rintro e w6 ⟨A6, c6, rfl, hown6, hb6⟩
          go_wp2_with fail
          go_meet
          exact ⟨E.1, E.2, A5, A6, c5, c6, rfl, rfl, rfl, rfl, hstep, own_below hu5 hb6, own_mono hown6 hgl7, own_below ho5 hb6, own_below hq5 hb6, LN_below hN5 hb6, B5.trans (hb6.mono hgl6)⟩
        · have v0 : (v == 0) = false := by simp [h0]
          by_cases h1 : v = 1
          · subst h1
            obtain ⟨E, hE⟩ : ∃ E, shutL l = E := ⟨_, rfl⟩
            have hstep := Lib.hid (show Step l (E.1, E.2) by rw [← hE]; exact grow_shut hmy.out (by omega))
            go_wp2_with fail
            refine (Shut_any _ _ _ l E _ (by omega) hSa hE).mono ?_; rintro e w5 ⟨A5, c5, rfl, hown5, hb5⟩
            have hSb5 := hSb.below hb5
            have hu5 := own_mono hown5 hgl5
            have B5 := b4.trans (hb5.mono hgl4')
            have hN5 := LN_below hN4 hb5
            have hgl6 : g ≤ w5.heap.size := Nat.le_trans hgl4' hb5.size
            have hgl7 : g + 1 ≤ w5.heap.size := Nat.le_trans hgl5 hb5.size
            have ho5 := own_below hoa4 hb5
            have hq5 := own_below hob4 hb5
            clear hb5 hown5
            go_wp2_with fail
            refine (ref_Shut_any _ _ _ l E _ (by omega) hSb5 hE).mono ?_; rintro e w6 ⟨A6, c6, rfl, hown6, hb6⟩
            go_wp2_with fail
            go_meet
            exact ⟨E.1, E.2, A5, A6, c5, c6, rfl, rfl, rfl, rfl, hstep, own_below hu5 hb6, own_mono hown6 hgl7, own_below ho5 hb6, own_below hq5 hb6, LN_below hN5 hb6, B5.trans (hb6.mono hgl6)⟩
          · have v1 : (v == 1) = false := by simp [h1]
            by_cases h2 : v = 2
            · subst h2
              obtain ⟨E, hE⟩ : ∃ E, onL l ⟨3, x, y, y, x⟩ = E := ⟨_, rfl⟩
              have hstep := Lib.hid (show Step l (E.1, E.2) by rw [← hE]; exact grow_on hmy.out (by omega) (bow_piece (by omega) (by omega)) (.inr rfl))
              go_wp2_with fail
              refine (Bow_any _ _ _ y x x y l E _ (by omega) hSa hE).mono ?_; rintro e w5 ⟨A5, c5, rfl, hown5, hb5⟩
              have hSb5 := hSb.below hb5
              have hu5 := own_mono hown5 hgl5
              have B5 := b4.trans (hb5.mono hgl4')
              have hN5 := LN_below hN4 hb5
              have hgl6 : g ≤ w5.heap.size := Nat.le_trans hgl4' hb5.size
              have hgl7 : g + 1 ≤ w5.heap.size := Nat.le_trans hgl5 hb5.size
              have ho5 := own_below hoa4 hb5
              have hq5 := own_below hob4 hb5
              clear hb5 hown5
              go_wp2_with fail
              refine (ref_Add_any _ _ _ l ⟨3, x, y, y, x⟩ E _ (by omega) hSb5 hE).mono ?_; rintro e w6 ⟨A6, c6, rfl, hown6, hb6⟩
              go_wp2_with fail
              go_meet
              exact ⟨E.1, E.2, A5, A6, c5, c6, rfl, rfl, rfl, rfl, hstep, own_below hu5 hb6, own_mono hown6 hgl7, own_below ho5 hb6, own_below hq5 hb6, LN_below hN5 hb6, B5.trans (hb6.mono hgl6)⟩
            · have v2 : (v == 2) = false := by simp [h2]
              obtain ⟨E, hE⟩ : ∃ E, onL l ⟨2, x, y, 0, 0⟩ = E := ⟨_, rfl⟩
              have hstep := Lib.hid (show Step l (E.1, E.2) by rw [← hE]; exact grow_on hmy.out (by omega) (line_piece (by omega) (by omega)) (.inl rfl))
              clear h0 h1 h2
              go_wp2_with fail
              refine (Line_any _ _ _ x y l E _ (by omega) hSa hE).mono ?_; rintro e w5 ⟨A5, c5, rfl, hown5, hb5⟩
              have hSb5 := hSb.below hb5
              have hu5 := own_mono hown5 hgl5
              have B5 := b4.trans (hb5.mono hgl4')
              have hN5 := LN_below hN4 hb5
              have hgl6 : g ≤ w5.heap.size := Nat.le_trans hgl4' hb5.size
              have hgl7 : g + 1 ≤ w5.heap.size := Nat.le_trans hgl5 hb5.size
              have ho5 := own_below hoa4 hb5
              have hq5 := own_below hob4 hb5
              clear hb5 hown5
              go_wp2_with fail
              refine (ref_Add_any _ _ _ l ⟨2, x, y, 0, 0⟩ E _ (by omega) hSb5 hE).mono ?_; rintro e w6 ⟨A6, c6, rfl, hown6, hb6⟩
              go_wp2_with fail
              go_meet
              exact ⟨E.1, E.2, A5, A6, c5, c6, rfl, rfl, rfl, rfl, hstep, own_below hu5 hb6, own_mono hown6 hgl7, own_below ho5 hb6, own_below hq5 hb6, LN_below hN5 hb6, B5.trans (hb6.mono hgl6)⟩
      case rest =>
        obtain ⟨M, er, C2, D2, cc, cd, rfl, rfl, rfl, rfl, hstep, hoc, hod, hoa5, hob5, hNc, bc⟩ := hcut
        clear hoa4 hob4 hSa hSb hN4 hcA hcB b4
        rcases hstep.out with ⟨he, hmv, hml⟩ | ⟨he, hmv⟩
        · simp only at he hmv hml
          subst he
          clear hoa5 hob5
          have hSc := own_sl hoc
          have hSd := own_sl hod
          obtain ⟨⟨px, py, pk⟩, hpt⟩ : ∃ p, ptL M = p := ⟨_, rfl⟩
          go_wp2_with fail
          refine (sameSg_any _ _ _ _ _ _ M _ (by omega) (own_sl hoc) (own_sl hod)).mono ?_; rintro e w6 ⟨rfl, q6, rfl⟩
          go_wp2_with fail
          refine (Point_any _ _ _ M _ _ (by omega) (hSc.drewN q6) hpt).mono ?_; rintro e w7 ⟨rfl, hb7⟩
          go_wp2_with fail
          refine (ref_Point_any _ _ _ M _ _ (by omega) ((hSd.drewN q6).below hb7) hpt).mono ?_; rintro e w8 ⟨rfl, hb8⟩
          go_wp2_with fail
          refine (path_May_any _ _ _ M _ (by omega) (((hSc.drewN q6).below hb7).below hb8)).mono ?_; rintro e w9 ⟨rfl, hb9⟩
          rw [hmv]
          have bq : Below wc.heap.size wc w9 := btr (btr (btr (bdrewN (Below.refl _ _) q6) hb7) hb8) hb9
          go_wp2_with fail
          go_roundw
          case rel => exact ⟨M, C2, D2, cc, cd, k + 1, by omega, by omega, rfl, rfl, by go_num, LN_below hNc bq, own_below hoc bq, own_below hod bq, Lib.hid hmv, hbr.trans (bc.trans (bq.mono (Nat.le_of_lt (LN_lt hNc))))⟩
          case measure => simp [intOf]; omega
        · simp only at he hmv
          subst he
          subst hmv
          have hmv := hmy.out
          have hM0 : ([] : List Sg).length = 0 := rfl
          rw [hM0] at hoc hod ⊢
          have hSc := own_sl hoa5
          have hSd := own_sl hob5
          obtain ⟨⟨px, py, pk⟩, hpt⟩ : ∃ p, ptL l = p := ⟨_, rfl⟩
          go_wp2_with fail
          refine (sameSg_any _ _ _ _ _ _ [] _ (by omega) (own_sl hoc) (own_sl hod)).mono ?_; rintro e w6 ⟨rfl, q6, rfl⟩
          go_wp2_with fail
          refine (Point_any _ _ _ l _ _ (by omega) (hSc.drewN q6) hpt).mono ?_; rintro e w7 ⟨rfl, hb7⟩
          go_wp2_with fail
          refine (ref_Point_any _ _ _ l _ _ (by omega) ((hSd.drewN q6).below hb7) hpt).mono ?_; rintro e w8 ⟨rfl, hb8⟩
          go_wp2_with fail
          refine (path_May_any _ _ _ l _ (by omega) (((hSc.drewN q6).below hb7).below hb8)).mono ?_; rintro e w9 ⟨rfl, hb9⟩
          rw [hmv]
          have bq : Below wc.heap.size wc w9 := btr (btr (btr (bdrewN (Below.refl _ _) q6) hb7) hb8) hb9
          go_wp2_with fail
          go_roundw
          case rel => exact ⟨l, A2, B2, ca, cb, k + 1, by omega, by omega, rfl, rfl, by go_num, LN_below hNc bq, own_below hoa5 bq, own_below hob5 bq, Lib.hid hmv, hbr.trans (bc.trans (bq.mono (Nat.le_of_lt (LN_lt hNc))))⟩
          case measure => simp [intOf]; omega
    · have hB : Below w.heap.size w wr := btr hb1 (((Below.refl _ _).alloc (Nat.le_refl _) (.cells #[.slice A n c] 29)).trans (HG.out ▸ hbr))
      by_cases h9 : 0 < n9
      · have hk40 : ¬ k < 40 := fun hk => hgo ⟨h9, hk⟩
        have hd1 : decide (0 < n9) = true := by simp; omega
        have hd2 : decide (k < 40) = false := by simp; omega
        go_wp2_with fail
        go_ret
        exact ⟨rfl, hB⟩
      · have hd1 : decide (0 < n9) = false := by simp; omega
        go_wp2_with fail
        go_ret
        exact ⟨rfl, hB⟩
end Go.Proofs.Ytpompbpdhahljaa
