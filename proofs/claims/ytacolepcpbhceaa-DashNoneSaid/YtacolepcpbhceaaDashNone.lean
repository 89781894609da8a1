/- The walk of DashNone: it returns true. -/
import Derived.Test.YtacolepcpbhceaaDash7
import Derived.Test.YtacolepcpbhceaaNoneP
import Derived.Deep.RegionHeld3
namespace Go.Proofs.Ytacolepcpbhceaa
open Go.RowKit

set_option maxHeartbeats 400000 in
theorem Place_big (v n : Int) (w : World) (hn : 0 < n) (hn' : n ≤ 2000000) :
    Calls Try.prog 14 #[.int .i64 v, .int .i64 n] w fun e w' => e = .returned (.int .i64 (placeI v n)) ∧ w = w' := by
  obtain ⟨h1, h2, h3, h4⟩ := tmod_emod v n hn
  have H3 := Lib.hid h3
  have H4 := Lib.hid h4
  clear h3 h4
  by_cases h : v.tmod n < 0
  · go_enter Try.func14, Try.ntmps14
    go_wp2
    go_ret
    exact ⟨ret_int (H3.out h), rfl⟩
  · go_enter Try.func14, Try.ntmps14
    go_wp2
    go_ret
    exact ⟨ret_int (H4.out h), rfl⟩

theorem chain_at : ∀ (es : List Ed) (x y : Int) (j : Nat) (h : j < es.length), chain x y es → es[j].x0 = endX x (es.take j) ∧ es[j].y0 = endY y (es.take j)
  | e :: es, x, y, 0, _, h => by
    obtain ⟨hx, hy, _⟩ : e.x0 = x ∧ e.y0 = y ∧ chain e.x1 e.y1 es := h
    exact ⟨hx, hy⟩
  | e :: es, x, y, j + 1, hj, h => by
    obtain ⟨_, _, hc⟩ : e.x0 = x ∧ e.y0 = y ∧ chain e.x1 e.y1 es := h
    have := chain_at es e.x1 e.y1 j (by simpa using hj) hc
    simpa [endX_cons, endY_cons] using this

set_option maxRecDepth 100000 in
set_option maxHeartbeats 4000000 in
theorem DashNone_any (A : Option Addr) (n c : Nat) (from_ : Int) (w : World) (h : InA w A n) (hnc : n ≤ c) (hcm : c ≤ 9223372036854775807) :
    Calls Try.prog 4 #[.slice A n c, .int .i64 from_] w fun e w' => e = .returned (.bool true) ∧ Below w.heap.size w w' := by
  go_enter Try.func4, Try.ntmps4
  go_wp2_with fail
  refine (known35_any _).mono ?_; rintro e w1 ⟨rfl, hb1⟩
  go_wp2_with fail
  refine (Made_any A n c false w1 (h.below hb1) hnc hcm).mono ?_; rintro e w2 ⟨l, A2, c2, rfl, hown2, hmd2, hb2⟩
  have B2 : Below w.heap.size w w2 := btr hb1 hb2
  have hp2 := own_sl hown2
  have hl12 := hmd2.2.1
  have HM := Lib.hid hmd2.may
  have hkd := hmd2.2.2.2 rfl
  have HKD := Lib.hid hkd
  obtain ⟨hnl, hnl2⟩ := none_law hmd2
  have HNL := Lib.hid hnl
  obtain ⟨cs, hcs⟩ : ∃ cs, ctsL l = cs := ⟨_, rfl⟩
  obtain ⟨NL, hNL⟩ : ∃ NL, noneL l = NL := ⟨_, rfl⟩
  have hNC : cs.flatMap noneC = NL := by rw [← hcs, ← hNL]; rfl
  rw [hNL] at hnl2
  have hcl : cs.length ≤ 12 := by rw [← hcs]; have := cts_len l; omega
  have hes : ∀ c ∈ cs, c.es.length ≤ 12 := fun c hc => by rw [← hcs] at hc; have := cts_es l c hc; omega
  have hgd : ∀ c ∈ cs, GoodC c := by rw [← hcs]; exact ctsL_good l
  obtain ⟨nc, hnc2⟩ : ∃ nc, cs.length = nc := ⟨_, rfl⟩
  obtain ⟨ll, hll⟩ : ∃ ll, l.length = ll := ⟨_, rfl⟩
  obtain ⟨nl, hnl3⟩ : ∃ nl, NL.length = nl := ⟨_, rfl⟩
  rw [hnc2] at hcl
  rw [hnl3] at hnl2
  rw [hll] at hl12 hp2 ⊢
  have HCS := Lib.hid hcs
  have HNLL := Lib.hid hNL
  have HNC := Lib.hid hNC
  have HES := Lib.hid hes
  have HGD := Lib.hid hgd
  have HC := Lib.hid hnc2
  have HLL := Lib.hid hll
  have HNN := Lib.hid hnl3
  clear hb1 hb2 hown2 hmd2 hkd hnl hcs hNL hNC hes hgd hnc2 hll hnl3
  go_wp2_with fail
  refine (Place_big from_ 1048576 _ (by omega) (by omega)).mono ?_; rintro e w' ⟨rfl, rfl⟩
  have hf : 0 ≤ placeI from_ 1048576 ∧ placeI from_ 1048576 < 1048576 := by unfold placeI; omega
  generalize placeI from_ 1048576 = f at *
  go_wp2_with fail
  refine (Cut_is _ _ _ _ _ _ l [] f l 0 ll _ hp2 HM.out HKD.out (Sl.nil_ : Sl _ 1 none 0 (ints [])) (.inl rfl) (by omega) (cutL_nil f l) HLL.out).mono ?_
  rintro e w3 ⟨A3, c3, rfl, hown3, hb3⟩
  have hp3 := hp2.below hb3
  have hq3 := own_sl hown3
  have B3 := btr B2 hb3
  clear hb3 hown3 hp2 B2
  go_wp2_with fail
  refine (Cut_is _ _ _ _ _ _ l [30000, 5] 0 NL 0 nl _ (hp3.below (bal (Below.refl _ _) _)) HM.out HKD.out (sl_new (ints [30000, 5]) (by simp) rfl) (.inr ⟨row_none, by simp⟩) (by omega) (by rw [← HNLL.out]; exact HNL.out) HNN.out).mono ?_
  rintro e w4 ⟨A4, c4, rfl, hown4, hb4⟩
  have B34 := btr (bal (Below.refl _ _) (.cells #[.int .i64 30000, .int .i64 5] 3)) hb4
  have hp4 := hp3.below B34
  have hq4 := hq3.below B34
  have hr4 := own_sl hown4
  have B4 := btr B3 B34
  clear hb4 hown4 hp3 hq3 B34 B3
  go_wp2_with fail
  refine (sameSg_any _ _ _ _ _ _ l _ (by omega) hq4 hp4).mono ?_; rintro e w5 ⟨rfl, q5, rfl⟩
  have hp5 := hp4.drewN q5
  have hr5 := hr4.drewN q5
  have B5 := bdrewN B4 q5
  clear hp4 hq4 hr4 B4
  go_wp2_with fail
  refine (Contours_any _ _ _ l cs _ (by omega) hp5 HCS.out).mono ?_; rintro e w6 ⟨A6, c6, rfl, hc6, hb6⟩
  rw [HC.out] at hc6 ⊢
  have hr6 := hr5.below hb6
  have B6 := btr B5 hb6
  clear hb6 hp5 hr5 B5
  go_wp2
  go_loopw [10, 12] (fun wt i wr => ∃ (k m : Nat) (A' : Option Addr) (c' : Nat), k ≤ nc ∧ m ≤ 12 ∧ wt = .slice A' m c' ∧ i = .int .i64 (k : Int) ∧ Below w6.heap.size w6 wr ∧ wr.ownsRow w6.heap.size 36 5 (.slice A' m c') m (sgs ((cs.take k).flatMap noneC))) (fun _ i _ => nc - (intOf i).toNat)
  case atStart => exact ⟨0, 0, none, 0, by omega, by omega, rfl, rfl, Below.refl _ _, own_nil⟩
  case round =>
    obtain ⟨wo, rfl⟩ : ∃ wo : World, wo = wr := ⟨_, rfl⟩
    obtain ⟨k, m, A7, c7, hk, hm, rfl, rfl, hbo, hown⟩ := hrel
    by_cases hlt : k < nc
    · have hkl : k < cs.length := by rw [HC.out]; exact hlt
      obtain ⟨bA, oA, AE, cE, rfl, hbA, a0, a1, a2, a3, hse⟩ := hc6.get k hlt hkl
      have hgk := HGD.out _ (List.getElem_mem hkl)
      have hek := HES.out _ (List.getElem_mem hkl)
      have hft := flat_take noneC cs k hkl
      have hfl := flat_le noneC cs k hkl
      obtain ⟨ct, hct⟩ : ∃ ct, ct = cs[k] := ⟨_, rfl⟩
      rw [← hct] at a0 a1 a2 a3 hse hgk hek hft hfl
      obtain ⟨u, hu⟩ : ∃ u, ct.es.length = u := ⟨_, rfl⟩
      rw [hu] at a2 hse hek
      replace a0 := (later_cell hbo hbA).trans a0
      replace a1 := (later_cell hbo hbA).trans a1
      replace a2 := (later_cell hbo hbA).trans a2
      replace a3 := (later_cell hbo hbA).trans a3
      have hse2 := hse.below hbo
      have hbA2 : bA < wo.heap.size := Nat.lt_of_lt_of_le hbA hbo.size
      have hmm : m + (noneC ct).length ≤ 12 := by
        have h1 := (own_sl hown).sglen
        rw [HNC.out, h1] at hfl
        have := HNN.out
        omega
      have HGK := Lib.hid hgk
      have HFT := Lib.hid hft
      have HU := Lib.hid hu
      have hso := hbo.size
      clear hgk hft hfl hct hu hse
      go_wp2
      go_quiet (fail)
      go_wp2
      have hw0 : Below wo.heap.size wo (wo.drewN nq) := bdrewN (Below.refl _ _) nq
      have hs1 : (wo.drewN nq).heap.size = wo.heap.size := by simp
      have hp0 := own_new (w := wo.drewN nq) (t := 36) (n := 1) (s := 5) (base := wo.heap.size) (sgc ⟨1, ct.x, ct.y, 0, 0⟩) rfl rfl (by omega) (by omega)
      rw [hs1] at hp0
      clear hs1
      go_loopw [13, 14, 15, 16] (fun xs ys ps js wi => ∃ (j mm : Nat) (x y : Int) (A5 : Option Addr) (c5 : Nat), j ≤ u ∧ mm ≤ j + 1 ∧ xs = .int .i64 x ∧ ys = .int .i64 y ∧ ps = .slice A5 mm c5 ∧ js = .int .i64 (j : Int) ∧ Below wo.heap.size wo wi ∧
        wi.ownsRow wo.heap.size 36 5 (.slice A5 mm c5) mm (sgs (⟨1, ct.x, ct.y, 0, 0⟩ :: ((ct.es.take j).filter moved).map lnE)) ∧ Hid (x = endX ct.x (ct.es.take j) ∧ y = endY ct.y (ct.es.take j))) (fun _ _ _ js _ => u - (intOf js).toNat)
      case atStart => exact ⟨0, 1, ct.x, ct.y, _, _, by omega, by omega, rfl, rfl, rfl, rfl, bal hw0 _, hp0, rfl, rfl⟩
      case round =>
        obtain ⟨j, mm, x, y, A5, c5, hj, hmj, rfl, rfl, rfl, rfl, hbi, hpo, hxy⟩ := hrel
        have A2i := (later_cell hbi hbA2).trans a2
        have A0i := (later_cell hbi hbA2).trans a0
        have A1i := (later_cell hbi hbA2).trans a1
        have A3i := (later_cell hbi hbA2).trans a3
        have hsi := hbi.size
        clear hp0 hw0
        by_cases hjl : j < u
        · have hjk : j < ct.es.length := by rw [HU.out]; exact hjl
          obtain ⟨bE, oE, rfl, hbE, e0, e1, e2, e3, e4, e5, e6⟩ := hse2.ed j hjl hjk
          obtain ⟨ch1, ch2⟩ := chain_at ct.es ct.x ct.y j hjk HGK.out.1
          rw [← hxy.out.1] at ch1
          rw [← hxy.out.2] at ch2
          have hxt := endX_take ct.x ct.es j hjk
          have hyt := endY_take ct.y ct.es j hjk
          have hfi := filter_take ct.es j hjk
          obtain ⟨ed, hed⟩ : ∃ ed, ed = ct.es[j] := ⟨_, rfl⟩
          rw [← hed] at e0 e1 e2 e3 e4 e5 e6 ch1 ch2 hxt hyt hfi
          replace e0 := (later_cell hbi hbE).trans e0
          replace e1 := (later_cell hbi hbE).trans e1
          replace e2 := (later_cell hbi hbE).trans e2
          replace e3 := (later_cell hbi hbE).trans e3
          replace e4 := (later_cell hbi hbE).trans e4
          replace e5 := (later_cell hbi hbE).trans e5
          replace e6 := (later_cell hbi hbE).trans e6
          have HX := Lib.hid hxt
          have HY := Lib.hid hyt
          have HFI := Lib.hid hfi
          have HCH : Hid (ed.x0 = x ∧ ed.y0 = y) := ⟨ch1, ch2⟩
          clear hed ch1 ch2 hxt hyt hfi
          cases hmv : moved ed
          · have hst : ed.x1 = x ∧ ed.y1 = y := by
              simp only [moved, Bool.or_eq_false_iff, Bool.not_eq_false', beq_iff_eq] at hmv
              have := HCH.out; omega
            obtain ⟨hst1, hst2⟩ := hst
            have HMV := Lib.hid hmv
            have b1 : (ed.x1 == x) = true := by simp [hst1]
            have b2 : (ed.y1 == y) = true := by simp [hst2]
            have b3 : (ed.x1 != x) = false := by simp [hst1]
            have b4 : (ed.y1 != y) = false := by simp [hst2]
            have hfe : ((ct.es.take (j + 1)).filter moved).map lnE = ((ct.es.take j).filter moved).map lnE := by rw [HFI.out]; simp [hmv]
            have HFE := Lib.hid hfe
            clear hmv hst1 hst2 hfe
            go_wp2
            go_quiet (fail)
            go_wp2
            go_roundw
            case rel => exact ⟨j + 1, mm, ed.x1, ed.y1, A5, c5, by omega, by omega, rfl, rfl, rfl, by go_num, bdrewN (bal hbi _) _, by rw [HFE.out]; exact own_below hpo (bdrewN (bal (Below.refl _ _) _) _), HX.out.symm, HY.out.symm⟩
            case measure => simp [intOf]; omega
          · have hst : (ed.x1 == x) = false ∨ ((ed.x1 == x) = true ∧ (ed.y1 == y) = false) := by
              have := HCH.out
              by_cases hx1 : ed.x1 = x
              · right
                refine ⟨by simp [hx1], ?_⟩
                simp only [moved, Bool.or_eq_true, Bool.not_eq_true', beq_eq_false_iff_ne, ne_eq] at hmv
                simp; omega
              · left; simpa using hx1
            have hfe : sgs (⟨1, ct.x, ct.y, 0, 0⟩ :: ((ct.es.take (j + 1)).filter moved).map lnE) = sgs (⟨1, ct.x, ct.y, 0, 0⟩ :: ((ct.es.take j).filter moved).map lnE) ++ sgc ⟨2, ed.x1, ed.y1, 0, 0⟩ := by
              rw [HFI.out, ← sgs_one, ← sgs_app]; simp [hmv, lnE]
            have HFE := Lib.hid hfe
            clear hmv hfe
            rcases hst with b1 | ⟨b1, b2⟩
            · have b3 : (ed.x1 != x) = true := by simpa using b1
              go_wp2_with (at_builtin; refine wpList_app rfl _ _ 24 rfl wo.heap.size sgT2 rfl (own_below hpo (bal (bal (Below.refl _ _) _) _)) (sgc ⟨2, ed.x1, ed.y1, 0, 0⟩) rfl (sl_newN _ (by simp) rfl) (oneCell_sgc _) (by omega) (by simp; omega) ?_; intro A8 c8 w8 hown8 hg8 hat8; have f1 : w8.cell? ⟨wr.heap.size, 5, none⟩ = some (.int .i64 ed.x1) := box_kept hpo hg8 5; have f2 : w8.cell? ⟨wr.heap.size, 6, none⟩ = some (.int .i64 ed.y1) := box_kept hpo hg8 6)
              have hb8 := grown_below (bal (bal hbi _) _) hg8 (own_below hpo (bal (bal (Below.refl _ _) _) _))
              clear hg8 hat8
              go_quiet (fail)
              go_wp2
              go_roundw
              case rel => exact ⟨j + 1, mm + 1, ed.x1, ed.y1, A8, c8, by omega, by omega, rfl, rfl, rfl, by go_num, bdrewN hb8 _, by rw [HFE.out]; exact own_below hown8 (bdrewN (Below.refl _ _) _), HX.out.symm, HY.out.symm⟩
              case measure => simp [intOf]; omega
            · have b3 : (ed.x1 != x) = false := by simpa using b1
              have b4 : (ed.y1 != y) = true := by simpa using b2
              go_wp2_with (at_builtin; refine wpList_app rfl _ _ 24 rfl wo.heap.size sgT2 rfl (own_below hpo (bal (bal (Below.refl _ _) _) _)) (sgc ⟨2, ed.x1, ed.y1, 0, 0⟩) rfl (sl_newN _ (by simp) rfl) (oneCell_sgc _) (by omega) (by simp; omega) ?_; intro A8 c8 w8 hown8 hg8 hat8; have f1 : w8.cell? ⟨wr.heap.size, 5, none⟩ = some (.int .i64 ed.x1) := box_kept hpo hg8 5; have f2 : w8.cell? ⟨wr.heap.size, 6, none⟩ = some (.int .i64 ed.y1) := box_kept hpo hg8 6)
              have hb8 := grown_below (bal (bal hbi _) _) hg8 (own_below hpo (bal (bal (Below.refl _ _) _) _))
              clear hg8 hat8
              go_quiet (fail)
              go_wp2
              go_roundw
              case rel => exact ⟨j + 1, mm + 1, ed.x1, ed.y1, A8, c8, by omega, by omega, rfl, rfl, rfl, by go_num, bdrewN hb8 _, by rw [HFE.out]; exact own_below hown8 (bdrewN (Below.refl _ _) _), HX.out.symm, HY.out.symm⟩
              case measure => simp [intOf]; omega
        · obtain rfl : j = u := by omega
          have htk : ct.es.take j = ct.es := List.take_of_length_le (by rw [HU.out]; omega)
          rw [htk] at hpo
          have hxy2 : x = endX ct.x ct.es ∧ y = endY ct.y ct.es := by have := hxy.out; rwa [htk] at this
          have HXY := Lib.hid hxy2
          have hml : mm = 1 + (ct.es.filter moved).length := by
            have := (own_sl hpo).sglen
            rw [List.length_cons, List.length_map] at this; omega
          have HML := Lib.hid hml
          have hmm1 : 1 ≤ mm := by omega
          have hbb : moved (backE ct) = moved ⟨x, y, false, 0, 0, ct.x, ct.y⟩ := by unfold backE; rw [hxy2.1, hxy2.2]
          have hBI := btr hbo hbi
          have hszi := hBI.size
          clear htk hxy hxy2 hse2 hml
          cases hsm : (ct.shut && moved (backE ct))
          · have hpc : piecesC ct = ct.es.filter moved := by unfold piecesC; rw [hsm]; simp
            have hcase : ct.shut = false ∨ (ct.shut = true ∧ x = ct.x ∧ y = ct.y) := by
              cases hsh : ct.shut
              · exact .inl rfl
              · right
                rw [hsh, hbb, Bool.true_and] at hsm
                simp only [moved, Bool.or_eq_false_iff, Bool.not_eq_false', beq_iff_eq] at hsm
                exact ⟨rfl, hsm⟩
            have HPC := Lib.hid hpc
            clear hsm hbb hpc
            by_cases hm1 : mm = 1
            · have hn0 : noneC ct = [] := by unfold noneC; rw [if_pos (by rw [HPC.out]; have := HML.out; omega)]
              have HN0 := Lib.hid hn0
              have hmle : mm ≤ 1 := by omega
              clear hn0 hm1
              rcases hcase with hsh | ⟨hsh, hx1, hy1⟩
              · go_wp2
                go_roundw
                case rel => exact ⟨k + 1, m, A7, c7, by omega, by omega, rfl, by go_num, hBI, by rw [HFT.out, HN0.out, List.append_nil]; exact own_below hown hbi⟩
                case measure => simp [intOf]; omega
              · have b1 : (x != ct.x) = false := by simp [hx1]
                have b2 : (y != ct.y) = false := by simp [hy1]
                clear hx1 hy1
                go_wp2
                go_roundw
                case rel => exact ⟨k + 1, m, A7, c7, by omega, by omega, rfl, by go_num, hBI, by rw [HFT.out, HN0.out, List.append_nil]; exact own_below hown hbi⟩
                case measure => simp [intOf]; omega
            · have hn0 : noneC ct = ⟨1, ct.x, ct.y, 0, 0⟩ :: (ct.es.filter moved).map lnE := by unfold noneC; rw [if_neg (by rw [HPC.out]; have := HML.out; omega), HPC.out]
              rw [← hn0] at hpo
              have hnl : (noneC ct).length = mm := (own_sl hpo).sglen
              have hmle : 1 < mm := by omega
              rw [hnl] at hmm
              clear hn0 hm1 hnl
              rcases hcase with hsh | ⟨hsh, hx1, hy1⟩
              · go_wp2_with (at_builtin; refine wpList_app rfl _ _ 24 rfl w6.heap.size sgT2 rfl (own_below hown hbi) (sgs (noneC ct)) rfl (own_sl hpo) (oneCell_sgs _) (by omega) ((btr hbo hbi).size) ?_; intro A9 c9 w9 hown9 hg9 hat9)
                go_roundw
                case rel => exact ⟨k + 1, m + mm, A9, c9, by omega, by omega, rfl, by go_num, grown_below (btr hbo hbi) hg9 (own_below hown hbi), by rw [HFT.out, sgs_app]; exact hown9⟩
                case measure => simp [intOf]; omega
              · have b1 : (x != ct.x) = false := by simp [hx1]
                have b2 : (y != ct.y) = false := by simp [hy1]
                clear hx1 hy1
                go_wp2_with (at_builtin; refine wpList_app rfl _ _ 24 rfl w6.heap.size sgT2 rfl (own_below hown hbi) (sgs (noneC ct)) rfl (own_sl hpo) (oneCell_sgs _) (by omega) ((btr hbo hbi).size) ?_; intro A9 c9 w9 hown9 hg9 hat9)
                go_roundw
                case rel => exact ⟨k + 1, m + mm, A9, c9, by omega, by omega, rfl, by go_num, grown_below (btr hbo hbi) hg9 (own_below hown hbi), by rw [HFT.out, sgs_app]; exact hown9⟩
                case measure => simp [intOf]; omega
          · have hpc : piecesC ct = ct.es.filter moved ++ [backE ct] := by unfold piecesC; rw [hsm]; simp
            have hn0 : noneC ct = (⟨1, ct.x, ct.y, 0, 0⟩ :: (ct.es.filter moved).map lnE) ++ [⟨2, ct.x, ct.y, 0, 0⟩] := by
              unfold noneC; rw [if_neg (by rw [hpc]; simp), hpc, List.map_append]; rfl
            have hsh : ct.shut = true := by cases hh : ct.shut <;> simp_all
            have hcase : (x != ct.x) = true ∨ ((x != ct.x) = false ∧ (y != ct.y) = true) := by
              rw [hsh, hbb, Bool.true_and] at hsm
              simp only [moved, Bool.or_eq_true, Bool.not_eq_true', beq_eq_false_iff_ne, ne_eq] at hsm
              by_cases hx1 : x = ct.x
              · right; exact ⟨by simp [hx1], by simp; omega⟩
              · left; simpa using hx1
            have hnl : (noneC ct).length = mm + 1 := by
              rw [hn0, List.length_append, List.length_cons, List.length_map]
              have := HML.out; simp; omega
            rw [hnl] at hmm
            have HN0 := Lib.hid hn0
            clear hsm hbb hpc hn0 hnl
            have hS0 := And.intro A0i A1i
            rcases hcase with b1 | ⟨b1, b2⟩
            · go_wp2
              go_region_held3 (fun w' => w'.cell? ⟨bA, oA + k * 4, none⟩ = some (.int .i64 ct.x) ∧ w'.cell? ⟨bA, oA + k * 4 + 1, none⟩ = some (.int .i64 ct.y))
                (first | with_reducible exact hs5 | go_keep)
                ((refine step_app (by rfl) _ _ 24 (by rfl) wo.heap.size sgT2 (by rfl) (own_below hpo (by repeat (first | with_reducible exact Below.refl _ _ | with_reducible refine bal ?_ _ | with_reducible refine bdrew ?_))) (sgc ⟨2, ct.x, ct.y, 0, 0⟩) (by rfl) (sl_newN _ (by simp) rfl) (oneCell_sgc _) (by omega) (by have := hbi.size; simp; omega) ?_; intro A8 c8 w8 hown8 hg8 hat8; have hb8 : Below wo.heap.size wo w8 := grown_below (btr hbi (by repeat (first | with_reducible exact Below.refl _ _ | with_reducible refine bal ?_ _ | with_reducible refine bdrew ?_))) hg8 (own_below hpo (by repeat (first | with_reducible exact Below.refl _ _ | with_reducible refine bal ?_ _ | with_reducible refine bdrew ?_))); have hs5 := And.intro ((later_cell hb8 hbA2).trans a0) ((later_cell hb8 hbA2).trans a1)))
              have hpo8 : w8.ownsRow wo.heap.size 36 5 (.slice A8 (mm + 1) c8) (mm + 1) (sgs (noneC ct)) := by rw [HN0.out, sgs_app, sgs_one]; exact hown8
              clear hown8 hg8 hat8
              go_wp2_with (at_builtin; refine wpList_app rfl _ _ 24 rfl w6.heap.size sgT2 rfl (own_below hown hb8) (sgs (noneC ct)) rfl (own_sl hpo8) (oneCell_sgs _) (by omega) ((btr hbo hb8).size) ?_; intro A9 c9 w9 hown9 hg9 hat9)
              go_roundw
              case rel => exact ⟨k + 1, m + (mm + 1), A9, c9, by omega, by omega, rfl, by go_num, grown_below (btr hbo hb8) hg9 (own_below hown hb8), by rw [HFT.out, sgs_app]; exact hown9⟩
              case measure => simp [intOf]; omega
            · go_wp2
              go_region_held3 (fun w' => w'.cell? ⟨bA, oA + k * 4, none⟩ = some (.int .i64 ct.x) ∧ w'.cell? ⟨bA, oA + k * 4 + 1, none⟩ = some (.int .i64 ct.y))
                (first | with_reducible exact hs5 | go_keep)
                ((refine step_app (by rfl) _ _ 24 (by rfl) wo.heap.size sgT2 (by rfl) (own_below hpo (by repeat (first | with_reducible exact Below.refl _ _ | with_reducible refine bal ?_ _ | with_reducible refine bdrew ?_))) (sgc ⟨2, ct.x, ct.y, 0, 0⟩) (by rfl) (sl_newN _ (by simp) rfl) (oneCell_sgc _) (by omega) (by have := hbi.size; simp; omega) ?_; intro A8 c8 w8 hown8 hg8 hat8; have hb8 : Below wo.heap.size wo w8 := grown_below (btr hbi (by repeat (first | with_reducible exact Below.refl _ _ | with_reducible refine bal ?_ _ | with_reducible refine bdrew ?_))) hg8 (own_below hpo (by repeat (first | with_reducible exact Below.refl _ _ | with_reducible refine bal ?_ _ | with_reducible refine bdrew ?_))); have hs5 := And.intro ((later_cell hb8 hbA2).trans a0) ((later_cell hb8 hbA2).trans a1)))
              have hpo8 : w8.ownsRow wo.heap.size 36 5 (.slice A8 (mm + 1) c8) (mm + 1) (sgs (noneC ct)) := by rw [HN0.out, sgs_app, sgs_one]; exact hown8
              clear hown8 hg8 hat8
              go_wp2_with (at_builtin; refine wpList_app rfl _ _ 24 rfl w6.heap.size sgT2 rfl (own_below hown hb8) (sgs (noneC ct)) rfl (own_sl hpo8) (oneCell_sgs _) (by omega) ((btr hbo hb8).size) ?_; intro A9 c9 w9 hown9 hg9 hat9)
              go_roundw
              case rel => exact ⟨k + 1, m + (mm + 1), A9, c9, by omega, by omega, rfl, by go_num, grown_below (btr hbo hb8) hg9 (own_below hown hb8), by rw [HFT.out, sgs_app]; exact hown9⟩
              case measure => simp [intOf]; omega
    · obtain rfl : k = nc := by omega
      have htk : cs.take k = cs := List.take_of_length_le (by rw [HC.out]; omega)
      rw [htk, HNC.out] at hown
      have hro := hr6.below hbo
      have Bo := btr B6 hbo
      have hwt := own_sl hown
      obtain rfl : nl = m := by rw [← HNN.out]; exact hwt.sglen
      clear htk hown
      go_wp2_with fail
      refine (sameSg_any _ _ _ _ _ _ NL _ (by omega) hro hwt).mono ?_; rintro e w9 ⟨rfl, q9, rfl⟩
      go_wp2
      go_ret
      exact ⟨rfl, bdrewN Bo _⟩
end Go.Proofs.Ytacolepcpbhceaa
