/- The walk of PathRounds: it returns true. -/
import Derived.Test.YtpompbpdhahljaaKnown25
import Derived.Test.YtpompbpdhahljaaMade
import Derived.Test.YtpompbpdhahljaaBox2
import Derived.Test.YtpompbpdhahljaaRoundP
import Derived.Test.YtpompbpdhahljaaLex
import Derived.Deep.DeepCutAuto
namespace Go.Proofs.Ytpompbpdhahljaa
open Go.RowKit

set_option maxRecDepth 100000 in
set_option maxHeartbeats 8000000 in
theorem PathRounds_any (A : Option Addr) (n c : Nat) (w : World) (h : InA w A n) (hnc : n ≤ c) (hcm : c ≤ 9223372036854775807) :
    Calls Try.prog 10 #[.slice A n c] w fun e w' => e = .returned (.bool true) ∧ Below w.heap.size w w' := by
  go_enter Try.func10, Try.ntmps10
  go_wp2_with fail
  refine (known25_any _).mono ?_; rintro e w1 ⟨rfl, hb1⟩
  go_wp2_with fail
  refine (Made_any A n c true w1 (h.below hb1) hnc hcm).mono ?_; rintro e w2 ⟨l, A2, c2, rfl, hown2, hmd2, hb2⟩
  have B2 : Below w.heap.size w w2 := btr hb1 hb2
  have hp2 := own_sl hown2
  have hl12 := hmd2.2.1
  have hmay := hmd2.may
  by_cases hl0 : l = []
  · subst hl0
    have hbx : boxL [] = (⟨0, 0, 0, 0⟩, false) := rfl
    have hcs : ctsL [] = [] := rfl
    have hel : edgesL [] = [] := rfl
    clear hb1 hb2 hown2 hmd2 hmay
    go_wp2_with fail
    refine (Box_any _ _ _ [] _ _ (by omega) hp2 hbx).mono ?_; rintro e w3 ⟨rfl, hb3⟩
    have hp3 := hp2.below hb3
    have B3 := btr B2 hb3
    clear hb3 hp2 B2
    go_wp2_with fail
    refine (Contours_any _ _ _ [] [] _ (by omega) hp3 hcs).mono ?_; rintro e w4 ⟨A4, c4, rfl, -, hb4⟩
    have hp4 := hp3.below hb4
    have B4 := btr B3 hb4
    clear hb4 hp3 B3
    go_wp2_with fail
    refine (PEdges_any _ _ _ [] [] _ (by omega) hp4 hel).mono ?_; rintro e w5 ⟨A5, c5, rfl, -, hb5, -⟩
    have B5 := btr B4 hb5
    clear hb5 hp4 B4
    go_wp2
    go_ret
    exact ⟨rfl, B5⟩
  · obtain ⟨b, hb⟩ : ∃ b, boxFrom l = b := ⟨_, rfl⟩
    have hbx : boxL l = (b, true) := by unfold boxL; rw [if_neg (by simp [hl0, hmay]), hb]
    have hin := edges_in hmay hl0
    have hgood := ctsL_good l
    rw [hb] at hin
    obtain ⟨cs, hcs⟩ : ∃ cs, ctsL l = cs := ⟨_, rfl⟩
    obtain ⟨el, hel⟩ : ∃ el, edgesL l = el := ⟨_, rfl⟩
    have hfl : cs.flatMap edgesC = el := by rw [← hel, ← hcs]; rfl
    have hcl : cs.length ≤ 300 := by rw [← hcs]; have := cts_len l; omega
    have hes : ∀ c ∈ cs, c.es.length ≤ 300 := fun c hc => by rw [← hcs] at hc; have := cts_es l c hc; omega
    rw [hcs] at hin hgood
    obtain ⟨nc, hnc2⟩ : ∃ nc, cs.length = nc := ⟨_, rfl⟩
    obtain ⟨L, hL⟩ : ∃ L, el.length = L := ⟨_, rfl⟩
    rw [hnc2] at hcl
    have HBX := Lib.hid hbx
    have HIN := Lib.hid hin
    have HG := Lib.hid hgood
    have HCS := Lib.hid hcs
    have HEL := Lib.hid hel
    have HFL := Lib.hid hfl
    have HNC := Lib.hid hnc2
    have HL := Lib.hid hL
    have HES := Lib.hid hes
    clear hb1 hb2 hown2 hmd2 hmay hl0 hbx hin hgood hcs hel hfl hnc2 hL hes hb
    go_wp2_with fail
    refine (Box_any _ _ _ l _ _ (by omega) hp2 HBX.out).mono ?_; rintro e w3 ⟨rfl, hb3⟩
    have hp3 := hp2.below hb3
    have B3 := btr B2 hb3
    clear hb3 hp2 B2
    go_wp2_with fail
    refine (Contours_any _ _ _ l cs _ (by omega) hp3 HCS.out).mono ?_; rintro e w4 ⟨A4, c4, rfl, hc4, hb4⟩
    rw [HNC.out] at hc4 ⊢
    have hp4 := hp3.below hb4
    have B4 := btr B3 hb4
    clear hb4 hp3 B3
    go_wp2_with fail
    refine (PEdges_any _ _ _ l el _ (by omega) hp4 HEL.out).mono ?_; rintro e w5 ⟨A5, c5, rfl, hown5, hb5, hL5⟩
    have he5 := own_sl hown5
    rw [HL.out] at he5 hL5 ⊢
    have hc5 := hc4.below hb5
    have B5 := btr B4 hb5
    clear hb5 hp4 hc4 hown5 B4
    go_wp2_with fail
    go_loopw [11, 12] (fun kk i wr => ∃ k K q : Nat, k ≤ nc ∧ K ≤ L ∧ kk = .int .i64 (K : Int) ∧ i = .int .i64 (k : Int) ∧ Hid (((cs.take k).flatMap edgesC).length = K) ∧ w5.drewN q = wr) (fun _ i _ => nc - (intOf i).toNat)
    case atStart => exact ⟨0, 0, 0, by omega, by omega, rfl, rfl, rfl, rfl⟩
    case round =>
      obtain ⟨k, K, q, hk, hKL, rfl, rfl, hK, rfl⟩ := hrel
      by_cases hlt : k < nc
      · have hka : k < cs.length := by rw [HNC.out]; exact hlt
        obtain ⟨bA, oA, AA, cA, rfl, hbA, a0, a1, a2, -, hsA⟩ := hc5.get k hlt hka
        have hu3 := HES.out cs[k] (List.getElem_mem hka)
        have hgc := HG.out cs[k] (List.getElem_mem hka)
        have hinc := HIN.out cs[k] (List.getElem_mem hka)
        have hat := flatMap_at edgesC cs k hka
        have hsucc : (cs.take (k + 1)).flatMap edgesC = (cs.take k).flatMap edgesC ++ edgesC cs[k] := by
          rw [List.take_succ_eq_append_getElem hka, List.flatMap_append]; simp
        obtain ⟨ct, hct⟩ : ∃ ct, ct = cs[k] := ⟨_, rfl⟩
        rw [← hct] at a0 a1 a2 hsA hu3 hgc hinc hsucc
        simp only [← hct] at hat
        obtain ⟨u, hu⟩ : ∃ u, ct.es.length = u := ⟨_, rfl⟩
        rw [hu] at a2 hsA hu3
        obtain ⟨v, hv⟩ : ∃ v, (edgesC ct).length = v := ⟨_, rfl⟩
        have hlen : ((cs.take (k + 1)).flatMap edgesC).length = K + v := by rw [hsucc, List.length_append, hK.out, hv]
        have hvL : K + v ≤ L := by
          rw [← hlen, ← HL.out, ← HFL.out]
          conv => rhs; rw [← List.take_append_drop (k + 1) cs, List.flatMap_append, List.length_append]
          omega
        have HLEN := Lib.hid hlen
        have hel : ∀ j (hj : j < (edgesC ct).length), ∃ hk : K + j < el.length, el[K + j] = (edgesC ct)[j] := fun j hj => by
          obtain ⟨h1, h2⟩ := hat j hj
          simp only [HFL.out, hK.out] at h1 h2
          exact ⟨h1, h2⟩
        have HELJ := Lib.hid hel
        have HGC := Lib.hid hgc
        have HINC := Lib.hid hinc
        have HU := Lib.hid hu
        have HV := Lib.hid hv
        clear hka hgc hinc hat hsucc hct hu hv hlen hel
        go_wp2_with fail
        go_big_quiet (fail)
        go_wp2_with fail
        go_loopw [11, 13, 14, 15] (fun kk x y jj wr => ∃ j q' : Nat, ∃ X Y : Int, j ≤ v ∧ kk = .int .i64 ((K + j : Nat) : Int) ∧ x = .int .i64 X ∧ y = .int .i64 Y ∧ jj = .int .i64 (j : Int) ∧
          Hid (X = endX ct.x ((edgesC ct).take j) ∧ Y = endY ct.y ((edgesC ct).take j)) ∧ w5.drewN q' = wr) (fun _ _ _ jj _ => v - (intOf jj).toNat)
        case atStart => exact ⟨0, _, ct.x, ct.y, by omega, by rw [Nat.add_zero], rfl, rfl, rfl, ⟨rfl, rfl⟩, by rw [World.drewN_drewN]⟩
        case round =>
          obtain ⟨j, q', X, Y, hj, rfl, rfl, rfl, rfl, hXY, rfl⟩ := hrel
          have hmore := edgesC_more (c := ct) j (by rw [HV.out]; exact hj)
          rw [HV.out, HU.out, ← hXY.out.1, ← hXY.out.2] at hmore
          obtain ⟨hm1, hm2, hm3⟩ := hmore
          by_cases hjv : j < v
          · have hju := hm3 hjv
            have hjl : j < (edgesC ct).length := by rw [HV.out]; exact hjv
            obtain ⟨hk1, hk2⟩ := HELJ.out j hjl
            rw [HL.out] at hk1
            obtain ⟨bE, oE, rfl, hbE, e0, e1, e2, e3, e4, e5, e6⟩ := he5.ed (K + j) hk1 (by rw [HL.out]; exact hk1)
            obtain ⟨g1, g2⟩ := chain_get _ _ _ (chain_edgesC HGC.out) j hjl
            obtain ⟨g3, g4⟩ := end_take (edgesC ct) ct.x ct.y j hjl
            have g5 := HINC.out _ (List.getElem_mem hjl)
            rw [hk2] at e0 e1 e2 e3 e4 e5 e6
            rw [← hXY.out.1] at g1
            rw [← hXY.out.2] at g2
            have hsame : ∀ hju' : j < ct.es.length, ct.es[j] = (edgesC ct)[j] := fun hju' => by
              have := hm2 (by rw [← HU.out]; exact hju')
              rw [List.getElem?_eq_getElem hjl, List.getElem?_eq_getElem hju'] at this
              injection this with this; exact this.symm
            obtain ⟨ed, hed⟩ : ∃ ed, ed = (edgesC ct)[j] := ⟨_, rfl⟩
            rw [← hed] at e0 e1 e2 e3 e4 e5 e6 g1 g2 g3 g4 g5
            simp only [← hed] at hsame
            rw [g1] at e0
            rw [g2] at e1
            have HG12 := Lib.hid (And.intro g1 g2)
            have hnew := Lib.hid (show ed.x1 = endX ct.x ((edgesC ct).take (j + 1)) ∧ ed.y1 = endY ct.y ((edgesC ct).take (j + 1)) from ⟨g3.symm, g4.symm⟩)
            obtain ⟨⟨i1, i2, i3, i4⟩, i5⟩ := g5
            have HI5 := Lib.hid i5
            have HSAME := Lib.hid hsame
            have HM1 := Lib.hid (hm1.1 hjv)
            clear hm1 hm2 hm3 hk2 g1 g2 g3 g4 hed hjl hsame i5
            go_upto_region 15 with (fail)
            go_cut [88] (fun s wx => s = .bool true ∧ wx = w5.drewN q')
            case first =>
              clear e0 e1 e2 e3 e4 e5 e6
              by_cases h1 : j < u
              · have hd : decide (j < u) = true := by simp; omega
                go_wp2_with fail
                go_meet
                exact ⟨rfl, rfl⟩
              · have hd : decide (j < u) = false := by simp; omega
                by_cases hx : X = ct.x
                · have hy : ¬ Y = ct.y := by
                    rcases HM1.out with h | h | h
                    · exact absurd h h1
                    · exact absurd hx h
                    · exact h
                  have hx2 : (X != ct.x) = false := by simp [hx]
                  have hx3 : (X == ct.x) = true := by simp [hx]
                  have hy2 : (Y != ct.y) = true := by simp [hy]
                  have hy3 : (Y == ct.y) = false := by simp [hy]
                  clear hx hy
                  go_wp2_with fail
                  go_meet
                  exact ⟨rfl, rfl⟩
                · have hx2 : (X != ct.x) = true := by simp [hx]
                  have hx3 : (X == ct.x) = false := by simp [hx]
                  clear hx
                  go_wp2_with fail
                  go_meet
                  exact ⟨rfl, rfl⟩
            case rest =>
              obtain ⟨rfl, rfl⟩ := hcut
              have c1 : decide (L ≤ K + j) = false := by simp; omega
              have c2 : decide ((L : Int) ≤ (K : Int) + (j : Int)) = false := by simp; omega
              have c3 : decide (u < j) = false := by simp; omega
              clear HM1
              go_upto_region 17 with (fail)
              go_cut [147] (fun s wx => s = .bool false ∧ ∃ q2, w5.drewN q2 = wx)
              case first =>
                by_cases h1 : j < u
                · have hd : decide (j < u) = true := by simp; omega
                  have h1' : j < ct.es.length := by rw [HU.out]; exact h1
                  obtain ⟨bS, oS, rfl, hbS, s0, s1, s2, s3, s4, s5, s6⟩ := hsA.ed j h1 h1'
                  rw [HSAME.out h1', HG12.out.1] at s0
                  rw [HSAME.out h1', HG12.out.2] at s1
                  rw [HSAME.out h1'] at s2 s3 s4 s5 s6
                  refine wp_region_quiet_lit (by kernel_rfl) (lexB_of (base := 91) (by kernel_rfl)) ?_
                  repeat go_big_quiet_step (fail)
                  refine wpQuiet_nil ?_
                  intro _ hw'
                  obtain ⟨nq, hw''⟩ := hw'
                  subst hw''
                  go_wp2_with fail
                  go_meet
                  exact ⟨rfl, _, by rw [World.drewN_drewN]⟩
                · have hd : decide (j < u) = false := by simp; omega
                  refine wp_region_quiet_lit (by kernel_rfl) (lexB_of (base := 91) (by kernel_rfl)) ?_
                  repeat go_big_quiet_step (fail)
                  refine wpQuiet_nil ?_
                  intro _ hw'
                  obtain ⟨nq, hw''⟩ := hw'
                  subst hw''
                  go_wp2_with fail
                  go_meet
                  exact ⟨rfl, _, by rw [World.drewN_drewN]⟩
              case rest =>
                obtain ⟨rfl, q2, rfl⟩ := hcut
                have d1 : decide (ed.x1 < b.x0) = false := by simp; omega
                have d2 : decide (b.x1 < ed.x1) = false := by simp; omega
                have d3 : decide (ed.y1 < b.y0) = false := by simp; omega
                have d4 : decide (b.y1 < ed.y1) = false := by simp; omega
                clear i1 i2 i3 i4 HSAME HG12
                go_wp2_with fail
                go_big_quiet (fail)
                cases hbt : ed.bent
                · rw [hbt] at e2
                  clear hbt HI5
                  go_wp2_with fail
                  go_roundw
                  case rel => exact ⟨j + 1, _, ed.x1, ed.y1, by omega, by go_num, rfl, rfl, by go_num, hnew, rfl⟩
                  case measure => simp [intOf]; omega
                · rw [hbt] at e2
                  obtain ⟨i1, i2, i3, i4⟩ := HI5.out hbt
                  have d5 : decide (ed.cx < b.x0) = false := by simp; omega
                  have d6 : decide (b.x1 < ed.cx) = false := by simp; omega
                  have d7 : decide (ed.cy < b.y0) = false := by simp; omega
                  have d8 : decide (b.y1 < ed.cy) = false := by simp; omega
                  clear hbt HI5 i1 i2 i3 i4
                  go_wp2_with fail
                  go_roundw
                  case rel => exact ⟨j + 1, _, ed.x1, ed.y1, by omega, by go_num, rfl, rfl, by go_num, hnew, rfl⟩
                  case measure => simp [intOf]; omega
          · have hend : ¬ (j < u ∨ X ≠ ct.x ∨ Y ≠ ct.y) := fun hh => hjv (hm1.2 hh)
            have hX : X = ct.x := by
              apply Classical.byContradiction; intro hx; exact hend (.inr (.inl hx))
            have hY : Y = ct.y := by
              apply Classical.byContradiction; intro hx; exact hend (.inr (.inr hx))
            have hju : ¬ j < u := fun hx => hend (.inl hx)
            have hju2 : decide (j < u) = false := by simp; omega
            subst hX; subst hY
            obtain rfl : j = v := by omega
            clear hm1 hm2 hm3 hend hXY
            go_wp2_with fail
            go_roundw
            case rel => exact ⟨k + 1, K + j, q', by omega, hvL, rfl, by go_num, HLEN, rfl⟩
            case measure => simp [intOf]; omega
      · obtain rfl : k = nc := by omega
        have hKL2 : K = L := by
          rw [← hK.out, ← HL.out, ← HFL.out, List.take_of_length_le (by rw [HNC.out]; omega)]
        subst hKL2
        have B9 := bdrewN B5 q
        clear hK HIN HG HES HFL HEL HCS HBX he5 hc5
        go_wp2
        go_ret
        exact ⟨by simp, B9⟩
end Go.Proofs.Ytpompbpdhahljaa
