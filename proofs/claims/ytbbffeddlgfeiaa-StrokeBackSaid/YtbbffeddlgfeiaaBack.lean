/- path.Back turns the path round: what it returns, and that what was there is as it was. -/
import Derived.Test.YtbbffeddlgfeiaaCts
import Derived.Test.YtbbffeddlgfeiaaAllP
import Derived.Test.YtbbffeddlgfeiaaEdges
import Derived.BigRegion
import Derived.Deep.DeepCutAuto
namespace Go.Proofs.Ytbbffeddlgfeiaa
open Go.RowKit

set_option maxRecDepth 100000 in
set_option maxHeartbeats 4000000 in
theorem Back_any (A : Option Addr) (n c : Nat) (l bl : List Sg) (w : World) (hm : n ≤ 1000000) (h : Sl w 5 A n (sgs l)) (hbl : backL l = bl) :
    Calls Try.prog 18 #[.slice A n c] w fun e w' => ∃ A' c', e = .returned (.slice A' bl.length c') ∧ w'.ownsRow w.heap.size 35 5 (.slice A' bl.length c') bl.length (sgs bl) ∧ Below w.heap.size w w' := by
  have hl := h.sglen
  obtain ⟨cs, hcs⟩ : ∃ cs, ctsL l = cs := ⟨_, rfl⟩
  have hcl : cs.length ≤ 1000000 := by have := cts_len l; rw [hcs] at this; omega
  have hel : ∀ c ∈ cs, c.es.length ≤ 1000 := fun c hc => by
    cases hmy : mayB l
    · rw [← hcs] at hc; simp [ctsL, hmy] at hc
    · have := cts_es l c (by rw [hcs]; exact hc); have := (mayB_from hmy).2; omega
  have hbk : pathOf (cs.map turnC) = bl := by rw [← hbl, ← hcs]; rfl
  have hb3 : bl.length ≤ 300 := by rw [← hbl]; exact backL_len_le l
  have HEL := Lib.hid hel
  have HBK := Lib.hid hbk
  have HB3 := Lib.hid hb3
  go_enter Try.func18, Try.ntmps18
  go_wp2_with (go_at_call 29; refine (Contours_any _ _ _ l cs _ hm h hcs).mono ?_; rintro e w1 ⟨A1, c1, rfl, hct, hb1⟩)
  clear hel hbk hb3 hbl hcs h hl hm
  go_loopw [3, 15] (fun out i wr => ∃ k m A' c', k ≤ cs.length ∧ m ≤ 300 ∧ out = .slice A' m c' ∧ i = .int .i64 (k : Int) ∧ Below w1.heap.size w1 wr ∧ Hid ((pathOf ((cs.take k).map turnC)).length = m) ∧
    wr.ownsRow w1.heap.size 35 5 (.slice A' m c') m (sgs (pathOf ((cs.take k).map turnC)))) (fun _ i _ => cs.length - (intOf i).toNat)
  case atStart => exact ⟨0, 0, none, 0, by omega, by omega, rfl, rfl, Below.refl _ _, rfl, own_nil⟩
  case round =>
    obtain ⟨wo, rfl⟩ : ∃ wo : World, wo = wr := ⟨_, rfl⟩
    obtain ⟨k, m, A2, c2, hk, hm3, rfl, rfl, hbr, hml, hown⟩ := hrel
    have hsz := hbr.size
    by_cases hlt : k < cs.length
    · obtain ⟨ba, off, Ae, ce, rfl, hba, x0', x1', x2', x3', hse⟩ := hct.get k hlt hlt
      have x0 := (later_cell hbr hba).trans x0'
      have x1 := (later_cell hbr hba).trans x1'
      have x2 := (later_cell hbr hba).trans x2'
      have x3 := (later_cell hbr hba).trans x3'
      have hsucc := turn_succ cs k hlt
      have hle := turn_take_le cs (k + 1)
      rw [HBK.out] at hle
      have hul := HEL.out cs[k] (List.getElem_mem hlt)
      obtain ⟨ct, hctk⟩ : ∃ ct, ct = cs[k] := ⟨_, rfl⟩
      rw [← hctk] at x0 x1 x2 x3 hse hsucc hul
      obtain ⟨u, hu⟩ : ∃ u, ct.es.length = u := ⟨_, rfl⟩
      rw [hu] at x2 hse hul
      obtain ⟨O, hO⟩ : ∃ O, O = pathOf ((cs.take k).map turnC) := ⟨_, rfl⟩
      rw [← hO] at hown hml hsucc
      obtain ⟨ex, hex⟩ : ∃ v, v = endX ct.x ct.es := ⟨_, rfl⟩
      obtain ⟨ey, hey⟩ : ∃ v, v = endY ct.y ct.es := ⟨_, rfl⟩
      rw [pathC_turn, ← hex, ← hey] at hsucc
      have hle3 : (pathOf ((cs.take (k + 1)).map turnC)).length ≤ 300 := by have := HB3.out; omega
      have HSUCC := Lib.hid hsucc
      have HLE := Lib.hid hle3
      have HU := Lib.hid hu
      have HEX := Lib.hid hex
      have HEY := Lib.hid hey
      clear x0' x1' x2' x3' hsucc hle hctk hO hex hey hle3 hu
      go_wp2_with fail
      go_big_quiet (fail)
      go_upto_if 27 with (fail)
      go_cut [6, 7] (fun s6 s7 wx => s6 = .int .i64 ex ∧ s7 = .int .i64 ey ∧ wx.heap.size = wo.heap.size + 1 ∧ Below wo.heap.size wo wx ∧ wx.cell? ⟨wo.heap.size, 2, none⟩ = some (.slice Ae u ce) ∧ wx.cell? ⟨wo.heap.size, 3, none⟩ = some (.bool ct.shut))
      case first =>
        by_cases hu0 : u = 0
        · have h1 : ex = ct.x := by rw [HEX.out, List.length_eq_zero_iff.1 (HU.out.trans hu0)]; rfl
          have h2 : ey = ct.y := by rw [HEY.out, List.length_eq_zero_iff.1 (HU.out.trans hu0)]; rfl
          have H1 := Lib.hid h1
          have H2 := Lib.hid h2
          have hd4 : decide (0 < u) = false := by simp; omega
          clear h1 h2
          go_wp2_with fail
          go_meet
          exact ⟨by rw [H1.out], by rw [H2.out], by simp, bdrewN (bal (Below.refl _ _) _) _, new_cell _ 2, new_cell _ 3⟩
        · have hu1 : 1 ≤ u := by omega
          obtain ⟨bU, oU, rfl, hbU, -, -, -, -, -, f5', f6'⟩ := hse.ed (u - 1) (by omega) (by rw [HU.out]; omega)
          have h1 : ex = (ct.es[u - 1]'(by rw [HU.out]; omega)).x1 := by rw [HEX.out, endX_get _ _ (by rw [HU.out]; omega)]; simp only [HU.out]
          have h2 : ey = (ct.es[u - 1]'(by rw [HU.out]; omega)).y1 := by rw [HEY.out, endY_get _ _ (by rw [HU.out]; omega)]; simp only [HU.out]
          rw [← h1] at f5'
          rw [← h2] at f6'
          have f5 := (later_cell hbr hbU).trans f5'
          have f6 := (later_cell hbr hbU).trans f6'
          have hd4 : decide (0 < u) = true := by simp; omega
          have hbU2 : bU < wo.heap.size := by omega
          clear h1 h2 f5' f6'
          go_wp2_with fail
          go_big_quiet (fail)
          go_wp2_with fail
          go_meet
          exact ⟨rfl, rfl, by simp, bdrewN (bdrewN (bal (Below.refl _ _) _) _) _, new_cell _ 2, new_cell _ 3⟩
      case rest =>
        obtain ⟨rfl, rfl, hsc, hbc, k2, k3⟩ := hcut
        have hown0 := own_below hown hbc
        clear x0 x1 x2 x3 HEX HEY
        go_wp2_with (at_builtin; refine wpList_app rfl _ _ 24 rfl w1.heap.size sgT rfl (own_below hown0 (bal (Below.refl _ _) _)) (sgc ⟨1, ex, ey, 0, 0⟩) rfl (sl_newN _ hsc rfl) (oneCell_sgc _) (by omega) (bal (btr hbr hbc) _).size ?_; intro A3 c3 w3 hown3 hg3 hat3; have hmd3 := ((Mid.refl wo.heap.size wc).bel (bal (Below.refl _ _) _)).grown (Off.old hown wc.heap.size) hg3; have f2 : w3.cell? ⟨wo.heap.size, 2, none⟩ = some (.slice Ae u ce) := (hmd3.cell (Nat.le_refl _) (by omega)).trans k2)
        have hb3 : Below w1.heap.size w1 w3 := grown_below (bal (btr hbr hbc) _) hg3 (own_below hown0 (bal (Below.refl _ _) _))
        have hoff3 := (Off.old hown wc.heap.size).next hat3 (by simp)
        clear hg3 hat3 hown hown0
        go_loopw [3, 9] (fun out ci wi => ∃ (j : Nat) (iv : Int) (A' : Option Addr) (c' : Nat), j ≤ u ∧ Hid (iv = (u : Int) - 1 - j) ∧ out = .slice A' (m + 1 + j) c' ∧ ci = .int .i64 iv ∧ Below w1.heap.size w1 wi ∧ Mid wo.heap.size wc.heap.size wc wi ∧
          Off wo.heap.size wc.heap.size (.slice A' (m + 1 + j) c') ∧ wi.ownsRow w1.heap.size 35 5 (.slice A' (m + 1 + j) c') (m + 1 + j) (sgs (O ++ [⟨1, ex, ey, 0, 0⟩] ++ ((ct.es.map flip).reverse.take j).map sgE))) (fun _ ci _ => (intOf ci + 1).toNat)
        case atStart => exact ⟨0, (u : Int) - 1, A3, c3, by omega, Lib.hid (by omega), rfl, by go_num, hb3, hmd3, hoff3, by simpa [sgs_app, sgs_one] using hown3⟩
        case round =>
          obtain ⟨j, iv, A4, c4, hj, hiv, rfl, rfl, hbi, hmd, hoff, howni⟩ := hrel
          have hmi := hmd.1
          have hsi := hbi.size
          clear hb3 hown3 hmd3 hoff3 f2
          by_cases hju : j < u
          · obtain ⟨z, hz⟩ : ∃ z : Nat, z + 1 + j = u := ⟨u - 1 - j, by omega⟩
            obtain rfl : iv = (z : Int) := by have := hiv.out; omega
            have hze : z < ct.es.length := by rw [HU.out]; omega
            have hrt := rev_take ct.es j z (by rw [HU.out]; exact hz) hze
            obtain ⟨bE, oE, rfl, hbE, g0, g1, g2, g3, g4, g5, g6⟩ := (hse.below hbi).ed z (by omega) hze
            obtain ⟨ed, hed⟩ : ∃ ed, ed = ct.es[z] := ⟨_, rfl⟩
            rw [← hed] at g0 g1 g2 g3 g4 g5 g6 hrt
            have HRT := Lib.hid hrt
            have f2 : wr.cell? ⟨wo.heap.size, 2, none⟩ = some (.slice (some ⟨bE, oE, none⟩) u ce) := (hmd.cell (Nat.le_refl _) (by omega)).trans k2
            clear hrt hed hze
            cases hbt : ed.bent
            · have HSG := Lib.hid (show sgE (flip ed) = ⟨2, ed.x0, ed.y0, 0, 0⟩ by simp [sgE, flip, hbt])
              rw [hbt] at g2
              clear hbt
              go_wp2_with (at_builtin; refine wpList_app rfl _ _ 24 rfl w1.heap.size sgT rfl (own_below howni (bal (bal (bal (Below.refl _ _) _) _) _)) (sgc ⟨2, ed.x0, ed.y0, 0, 0⟩) rfl (sl_newN _ (by simp) rfl) (oneCell_sgc _) (by omega) (bal (bal (bal hbi _) _) _).size ?_; intro A5 c5 w5 hown5 hg5 hat5)
              go_roundw
              case rel => exact ⟨j + 1, (z : Int) - 1, A5, c5, by omega, Lib.hid (by omega), rfl, by go_num, grown_below (bal (bal (bal hbi _) _) _) hg5 (own_below howni (bal (bal (bal (Below.refl _ _) _) _) _)), (hmd.bel (bal (bal (bal (Below.refl _ _) _) _) _)).grown hoff hg5, hoff.next hat5 (by simp; omega), by rw [HRT.out, ← List.append_assoc, sgs_app _ [_], sgs_one, HSG.out]; exact hown5⟩
              case measure => simp [intOf]
            · have HSG := Lib.hid (show sgE (flip ed) = ⟨3, ed.x0, ed.y0, ed.cx, ed.cy⟩ by simp [sgE, flip, hbt])
              rw [hbt] at g2
              clear hbt
              go_wp2_with fail
              go_region
              go_wp2_with (at_builtin; refine wpList_app rfl _ _ 24 rfl w1.heap.size sgT rfl (own_below howni (bal (bdrew (bal (bal (Below.refl _ _) _) _)) _)) (sgc ⟨3, ed.x0, ed.y0, ed.cx, ed.cy⟩) rfl (sl_newN _ (by simp) rfl) (oneCell_sgc _) (by omega) (bal (bdrew (bal (bal hbi _) _)) _).size ?_; intro A5 c5 w5 hown5 hg5 hat5)
              go_roundw
              case rel => exact ⟨j + 1, (z : Int) - 1, A5, c5, by omega, Lib.hid (by omega), rfl, by go_num, grown_below (bal (bdrew (bal (bal hbi _) _)) _) hg5 (own_below howni (bal (bdrew (bal (bal (Below.refl _ _) _) _)) _)), (hmd.bel (bal (bdrew (bal (bal (Below.refl _ _) _) _)) _)).grown hoff hg5, hoff.next hat5 (by simp; omega), by rw [HRT.out, ← List.append_assoc, sgs_app _ [_], sgs_one, HSG.out]; exact hown5⟩
              case measure => simp [intOf]
          · have hje : j = u := by omega
            subst hje
            obtain rfl : iv = -1 := by have := hiv.out; omega
            have htake : (ct.es.map flip).reverse.take j = (ct.es.map flip).reverse := List.take_of_length_le (by simp; rw [HU.out]; omega)
            rw [htake] at howni
            have f3 : wr.cell? ⟨wo.heap.size, 3, none⟩ = some (.bool ct.shut) := (hmd.cell (Nat.le_refl _) (by omega)).trans k3
            clear htake k2 k3
            cases hsh : ct.shut
            · have hall : pathOf ((cs.take (k + 1)).map turnC) = O ++ [⟨1, ex, ey, 0, 0⟩] ++ (ct.es.map flip).reverse.map sgE := by rw [HSUCC.out, hsh]; simp [clL]
              have hlen : (pathOf ((cs.take (k + 1)).map turnC)).length = m + 1 + j := by rw [hall]; simp only [List.length_append, List.length_map, List.length_reverse, List.length_cons, List.length_nil, hml.out, HU.out]
              have hle := HLE.out
              rw [hlen] at hle
              have HLEN := Lib.hid hlen
              have HALL := Lib.hid hall
              rw [hsh] at f3
              clear hsh hall hlen
              go_wp2_with fail
              go_roundw
              case rel => exact ⟨k + 1, m + 1 + j, A4, c4, by omega, hle, rfl, by go_num, hbi, HLEN, by rw [HALL.out]; exact howni⟩
              case measure => simp [intOf]; omega
            · have hall : pathOf ((cs.take (k + 1)).map turnC) = O ++ [⟨1, ex, ey, 0, 0⟩] ++ (ct.es.map flip).reverse.map sgE ++ [⟨4, 0, 0, 0, 0⟩] := by rw [HSUCC.out, hsh]; simp [clL]
              have hlen : (pathOf ((cs.take (k + 1)).map turnC)).length = m + 1 + j + 1 := by rw [hall]; simp only [List.length_append, List.length_map, List.length_reverse, List.length_cons, List.length_nil, hml.out, HU.out]
              have hle := HLE.out
              rw [hlen] at hle
              have HLEN := Lib.hid hlen
              have HALL := Lib.hid hall
              rw [hsh] at f3
              clear hsh hall hlen
              go_wp2_with (at_builtin; refine wpList_app rfl _ _ 24 rfl w1.heap.size sgT rfl (own_below howni (bal (Below.refl _ _) _)) (sgc ⟨4, 0, 0, 0, 0⟩) rfl (sl_newN _ rfl rfl) (oneCell_sgc _) (by omega) (bal hbi _).size ?_; intro A5 c5 w5 hown5 hg5 hat5)
              go_roundw
              case rel => exact ⟨k + 1, m + 1 + j + 1, A5, c5, by omega, hle, rfl, by go_num, grown_below (bal hbi _) hg5 (own_below howni (bal (Below.refl _ _) _)), HLEN, by rw [HALL.out, sgs_app _ [_], sgs_one]; exact hown5⟩
              case measure => simp [intOf]; omega
    · obtain rfl : k = cs.length := by omega
      have htake : cs.take cs.length = cs := List.take_of_length_le (Nat.le_refl _)
      rw [htake, HBK.out] at hml hown
      clear htake
      go_wp2
      go_ret
      rw [hml.out]
      exact ⟨A2, c2, rfl, own_mono hown hb1.size, btr hb1 hbr⟩

end Go.Proofs.Ytbbffeddlgfeiaa
