/- flat.Path. -/
import Derived.Test.YtdfkbbcoolgfiaaGreatMEd
import Derived.Test.YtdfkbbcoolgfiaaGreatAllP
import Derived.Test.YtdfkbbcoolgfiaaGreatMMay
namespace Go.Proofs.YtdfkbbcoolgfiaaGreat
open Go.RowKit

set_option maxHeartbeats 1000000 in
theorem flat_Path_no (A : Option Addr) (n c : Nat) (l : List Sg) (w : World) (hm : n ≤ 1000000) (h : Sl w 5 A n (sgs l)) (hok : mayB l = false) :
    Calls Tryz.prog 28 #[.slice A n c] w fun e w' => ∃ A' c', e = .returned (.tuple #[.slice A' (flatE l).1.length c', .int .i64 (flatE l).2]) ∧
      w'.ownsRow w.heap.size 63 5 (.slice A' (flatE l).1.length c') (flatE l).1.length (sgs (flatE l).1) ∧ Below w.heap.size w w' := by
  have hE : flatE l = ([], 1) := by simp [flatE, hok]
  rw [hE]
  go_enter Tryz.func28, Tryz.ntmps28
  go_wp2_with (go_at_call 57; refine (path_May_any _ _ _ l _ hm h).mono ?_; rintro e w' ⟨rfl, hb1⟩)
  go_ret2
  exact ⟨none, 0, rfl, own_nil, hb1⟩

set_option maxRecDepth 100000 in
set_option maxHeartbeats 2000000 in
theorem flat_Path_yes (A : Option Addr) (n c : Nat) (l : List Sg) (w : World) (hm : n ≤ 1000000) (h : Sl w 5 A n (sgs l)) (hok : mayB l = true) :
    Calls Tryz.prog 28 #[.slice A n c] w fun e w' => ∃ A' c', e = .returned (.tuple #[.slice A' (flatE l).1.length c', .int .i64 (flatE l).2]) ∧
      w'.ownsRow w.heap.size 63 5 (.slice A' (flatE l).1.length c') (flatE l).1.length (sgs (flatE l).1) ∧ Below w.heap.size w w' := by
  have hl := h.sglen
  obtain ⟨E, hE⟩ : ∃ E, flatE l = E := ⟨_, rfl⟩
  have HE := Lib.hid hE
  rw [hE]
  clear hE
  go_enter Tryz.func28, Tryz.ntmps28
  go_wp2_with (go_at_call 57; refine (path_May_any _ _ _ l _ hm h).mono ?_; rintro e w1 ⟨rfl, hb1⟩)
  go_loopw [4, 5, 6, 16] (fun out x y i wr => ∃ k m A' c', k ≤ n ∧ m ≤ 300 ∧ out = .slice A' m c' ∧ x = .int .i64 (lastX (l.take k)) ∧ y = .int .i64 (lastY (l.take k)) ∧ i = .int .i64 (k : Int) ∧ Below w1.heap.size w1 wr ∧
    Hid ((flatL (l.take k)).length = m) ∧ wr.ownsRow w1.heap.size 63 5 (.slice A' m c') m (sgs (flatL (l.take k)))) (fun _ _ _ i _ => n - (intOf i).toNat)
  case atStart => exact ⟨0, 0, none, 0, by omega, by omega, rfl, rfl, rfl, rfl, Below.refl _ _, rfl, own_nil⟩
  case round =>
    obtain ⟨wo, rfl⟩ : ∃ wo : World, wo = wr := ⟨_, rfl⟩
    obtain ⟨k, m, A1, c1, hk, hm3, rfl, rfl, rfl, rfl, hbr, hml, hown⟩ := hrel
    have hsz := hbr.size
    obtain ⟨x, hx⟩ : ∃ x, x = lastX (l.take k) := ⟨_, rfl⟩
    obtain ⟨y, hy⟩ : ∃ y, y = lastY (l.take k) := ⟨_, rfl⟩
    rw [← hx, ← hy]
    have HX := Lib.hid hx
    have HY := Lib.hid hy
    clear hx hy
    by_cases hlt : k < n
    · have hkl : k < l.length := by omega
      obtain ⟨b, off, rfl, hb, d0, d1, d2, d3, d4⟩ := ((h.below hb1).below hbr).sg k hlt hkl
      obtain ⟨sk, hsk⟩ : ∃ s, s = l[k] := ⟨_, rfl⟩
      have htk := flatL_take l k hkl
      have hxk := lastX_take l k hkl
      have hyk := lastY_take l k hkl
      rw [← hsk] at d0 d1 d2 d3 d4 htk hxk hyk
      rw [← HX.out, ← HY.out] at htk
      have HTK := Lib.hid htk
      have HXK := Lib.hid hxk
      have HYK := Lib.hid hyk
      clear hsk htk hxk hyk
      by_cases hk3 : sk.kind = 3
      · obtain ⟨es, hes⟩ : ∃ es, lns ⟨x, y, true, sk.cx, sk.cy, sk.x, sk.y⟩ = es := ⟨_, rfl⟩
        have hfs : flatSeg x y sk = es.map lnSg := by rw [flatSeg_bow hk3, hes]
        have HES := Lib.hid hes
        have HFS := Lib.hid hfs
        have hq8 : es.length ≤ 128 := by rw [← hes]; exact lns_le _
        obtain ⟨q, hq⟩ : ∃ q, es.length = q := ⟨_, rfl⟩
        have HQ := Lib.hid hq
        rw [hq] at hq8
        have hEd := fun W => Edges_any x y sk.cx sk.cy sk.x sk.y true es W HES.out
        rw [hq] at hEd
        have HED := Lib.hid hEd
        have hk3' : (sk.kind == 3) = true := by simp [hk3]
        clear hfs hes hq hEd hk3
        go_wp2_with (go_at_call 67; refine (HED.out _).mono ?_; rintro e wE ⟨AE, cE, rfl, hownE, hbE⟩)
        have hownO := own_below hown (btr (bal (Below.refl _ _) _) hbE)
        have hszE := hbE.size
        simp at hszE
        have hzE : wo.heap.size < wE.heap.size := by omega
        have b1 : wE.cell? ⟨wo.heap.size, 1, none⟩ = some (.int .i64 sk.x) := (later_cell hbE (by simp)).trans (new_cell _ 1)
        have b2 : wE.cell? ⟨wo.heap.size, 2, none⟩ = some (.int .i64 sk.y) := (later_cell hbE (by simp)).trans (new_cell _ 2)
        have B1 := Lib.hid b1
        have B2 := Lib.hid b2
        have hbO : Below w1.heap.size w1 wE := btr (bal hbr _) hbE
        clear b1 b2 d0 d1 d2 d3 d4 HED hbE
        go_loopw [4, 36] (fun out i wr => ∃ j A' c', j ≤ q ∧ out = .slice A' (m + j) c' ∧ i = .int .i64 (j : Int) ∧ Below w1.heap.size w1 wr ∧ Mid wo.heap.size wE.heap.size wE wr ∧ Off wo.heap.size wE.heap.size (.slice A' (m + j) c') ∧
          wr.ownsRow w1.heap.size 63 5 (.slice A' (m + j) c') (m + j) (sgs (flatL (l.take k) ++ (es.take j).map lnSg))) (fun _ i _ => q - (intOf i).toNat)
        case atStart => exact ⟨0, A1, c1, by omega, rfl, rfl, hbO, Mid.refl _ _, Off.old hown _, by simpa using hownO⟩
        case round =>
          obtain ⟨j, A2, c2, hj, rfl, rfl, hbi, hmd, hoff, howni⟩ := hrel
          have hsi := hbi.size
          have hmi := hmd.1
          by_cases hjq : j < q
          · have hje : j < es.length := by rw [HQ.out]; exact hjq
            obtain ⟨b', off', rfl, hb', g0, g1, g2, g3, g4, g5, g6⟩ := (own_sl (hmd.own (by simp) hownE)).ed j hjq hje
            obtain ⟨e, he⟩ : ∃ e, e = es[j] := ⟨_, rfl⟩
            have hms := map_take_snoc lnSg es j hje
            rw [← he] at g0 g1 g2 g3 g4 g5 g6 hms
            have HMS := Lib.hid hms
            clear he hms
            go_wp2_with (at_builtin; refine wpList_app rfl _ _ 24 rfl w1.heap.size sgT rfl (own_below howni (bal (bal (Below.refl _ _) _) _)) (sgc (lnSg e)) rfl (sl_newN _ (by simp) rfl) (oneCell_sgc _) (by omega) (by simp; omega) ?_; intro A3 c3 w3 hown3 hg3 hat3)
            go_roundw
            case rel => exact ⟨j + 1, A3, c3, by omega, rfl, by go_num, grown_below (bal (bal hbi _) _) hg3 (own_below howni (bal (bal (Below.refl _ _) _) _)), (hmd.bel (bal (bal (Below.refl _ _) _) _)).grown hoff hg3, hoff.next hat3 (by simp; omega), by rw [HMS.out, ← List.append_assoc, sgs_app _ [_], sgs_one]; exact hown3⟩
            case measure => simp [intOf]; omega
          · obtain rfl : j = q := by omega
            have htake : es.take j = es := List.take_of_length_le (by rw [HQ.out]; omega)
            have hall : flatL (l.take (k + 1)) = flatL (l.take k) ++ (es.take j).map lnSg := by rw [HTK.out, HFS.out, htake]
            have hlen : (flatL (l.take (k + 1))).length = m + j := by rw [HTK.out, HFS.out, List.length_append, hml.out, List.length_map, HQ.out]
            rw [← hall] at howni
            have HLEN := Lib.hid hlen
            clear htake hall hlen
            have f1 : wr.cell? ⟨wo.heap.size, 1, none⟩ = some (.int .i64 sk.x) := (hmd.cell (Nat.le_refl _) hzE).trans B1.out
            have f2 : wr.cell? ⟨wo.heap.size, 2, none⟩ = some (.int .i64 sk.y) := (hmd.cell (Nat.le_refl _) hzE).trans B2.out
            by_cases hov : m + j ≤ 300
            · go_wp2
              go_quiet (fail)
              go_wp2
              go_roundw
              case rel => exact ⟨k + 1, m + j, A2, c2, by omega, hov, rfl, by rw [HXK.out], by rw [HYK.out], by go_num, bdrewN hbi _, HLEN.out, howni⟩
              case measure => simp [intOf]; omega
            · go_wp2
              go_ret2
              rw [← HE.out, flatE_over (k := k + 1) hok (by rw [HLEN.out]; omega)]
              exact ⟨none, 0, rfl, own_nil, btr hb1 hbi⟩
      · have hfs : flatSeg x y sk = [sk] := by simp [flatSeg, hk3]
        have hlen : (flatL (l.take (k + 1))).length = m + 1 := by rw [HTK.out, hfs, List.length_append, hml.out]; rfl
        have hall : flatL (l.take (k + 1)) = flatL (l.take k) ++ [sk] := by rw [HTK.out, hfs]
        have HLEN := Lib.hid hlen
        have HALL := Lib.hid hall
        have hk3' : (sk.kind == 3) = false := by simp [hk3]
        clear hfs hk3 hlen hall
        by_cases hm4 : m < 300
        all_goals
          go_wp2_with (at_builtin; refine wpList_app rfl _ _ 24 rfl w1.heap.size sgT rfl (own_below hown (bal (bal (Below.refl _ _) _) _)) (sgc sk) rfl (sl_newN _ (by simp) rfl) (oneCell_sgc _) (by omega) (by simp; omega) ?_; intro A2 c2 w3 hown3 hg3 hat3; have f1 : w3.cell? ⟨wo.heap.size, 1, none⟩ = some (.int .i64 sk.x) := box_kept hown hg3 1; have f2 : w3.cell? ⟨wo.heap.size, 2, none⟩ = some (.int .i64 sk.y) := box_kept hown hg3 2)
        · go_quiet (fail)
          go_wp2
          go_roundw
          case rel => exact ⟨k + 1, m + 1, A2, c2, by omega, by omega, rfl, by rw [HXK.out], by rw [HYK.out], by go_num, bdrewN (grown_below (bal (bal hbr _) _) hg3 (own_below hown (bal (bal (Below.refl _ _) _) _))) _, HLEN.out, by rw [HALL.out, sgs_app, sgs_one]; exact hown3⟩
          case measure => simp [intOf]; omega
        · go_ret2
          rw [← HE.out, flatE_over (k := k + 1) hok (by rw [HLEN.out]; omega)]
          exact ⟨none, 0, rfl, own_nil, btr hb1 (grown_below (bal (bal hbr _) _) hg3 (own_below hown (bal (bal (Below.refl _ _) _) _)))⟩
    · obtain rfl : k = n := by omega
      have htake : l.take k = l := List.take_of_length_le (by omega)
      rw [htake] at hown hml
      have HEA := Lib.hid (flatE_all hok (by rw [hml.out]; exact hm3))
      clear htake
      go_wp2
      go_ret2
      rw [← HE.out, HEA.out]
      simp only
      rw [hml.out]
      exact ⟨A1, c1, rfl, own_mono hown hb1.size, btr hb1 hbr⟩

end Go.Proofs.YtdfkbbcoolgfiaaGreat
