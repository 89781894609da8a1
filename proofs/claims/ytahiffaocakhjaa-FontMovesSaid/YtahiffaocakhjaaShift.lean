/- path.Shift: what it returns, and that what was there is as it was. -/
import Derived.Test.YtahiffaocakhjaaAdd
import Derived.Test.YtahiffaocakhjaaAllP
namespace Go.Proofs.Ytahiffaocakhjaa
open Go.RowKit

/-- A number added, as the machine adds. -/
def ad (d v : Int) : Int := wrap64 (v + d)

set_option maxRecDepth 100000 in
set_option maxHeartbeats 4000000 in
theorem Shift_any (A : Option Addr) (n c : Nat) (dx dy : Int) (l : List Sg) (E : List Sg × Int) (w : World) (hm : n ≤ 100000) (h : Sl w 5 A n (sgs l)) (hE : shiftL (ad dx) (ad dy) l = E) :
    Calls Try.prog 26 #[.slice A n c, .int .i64 dx, .int .i64 dy] w fun e w' => ∃ A' c', e = .returned (.tuple #[.slice A' E.1.length c', .int .i64 E.2]) ∧
      w'.ownsRow w.heap.size 48 5 (.slice A' E.1.length c') E.1.length (sgs E.1) ∧ Below w.heap.size w w' := by
  have hl := h.sglen
  have HE := Lib.hid hE
  clear hE
  go_enter Try.func26, Try.ntmps26
  go_wp2_with fail
  refine (path_May_any _ _ _ l _ (by omega) h).mono ?_; rintro e w1 ⟨rfl, hb1⟩
  cases hok : mayB l
  · have HE1 := Lib.hid (show E = ([], 1) by rw [← HE.out, shiftL, hok]; rfl)
    clear HE
    go_wp2
    go_ret2
    rw [HE1.out]
    exact ⟨none, 0, rfl, own_nil, hb1⟩
  · have hs1 := h.below hb1
    have hn3 : n ≤ 300 := by rw [← hl]; exact (mayB_from hok).2
    have HOK := Lib.hid hok
    clear h hok
    go_wp2_with fail
    go_loopw [8, 16] (fun out i wr => ∃ k A' c', k ≤ n ∧ out = .slice A' k c' ∧ i = .int .i64 (k : Int) ∧ Below w1.heap.size w1 wr ∧ Hid (((l.take k).map (shS (ad dx) (ad dy))).all okS = true) ∧
      wr.ownsRow w1.heap.size 48 5 (.slice A' k c') k (sgs ((l.take k).map (shS (ad dx) (ad dy))))) (fun _ i _ => n - (intOf i).toNat)
    case atStart => exact ⟨0, none, 0, by omega, rfl, rfl, Below.refl _ _, Lib.hid (by simp), own_nil⟩
    case round =>
      obtain ⟨wo, rfl⟩ : ∃ wo : World, wo = wr := ⟨_, rfl⟩
      obtain ⟨k, A2, c2, hk, rfl, rfl, hbr, hal, hown⟩ := hrel
      have hsz := hbr.size
      by_cases hlt : k < n
      · have hkl : k < l.length := by omega
        obtain ⟨b, off, rfl, hb, d0, d1, d2, d3, d4⟩ := (hs1.below hbr).sg k hlt hkl
        have hno := shiftL_not (f := ad dx) (g := ad dy) HOK.out hkl
        have hya := sh_all (f := ad dx) (g := ad dy) hkl hal.out
        have htk := sh_take (f := ad dx) (g := ad dy) hkl
        obtain ⟨sk, hsk⟩ : ∃ s, s = l[k] := ⟨_, rfl⟩
        rw [← hsk] at d0 d1 d2 d3 d4 hno hya htk
        obtain ⟨O, hO⟩ : ∃ O, O = (l.take k).map (shS (ad dx) (ad dy)) := ⟨_, rfl⟩
        rw [← hO] at hown htk
        have HNO := Lib.hid hno
        have HYA := Lib.hid hya
        have HTK := Lib.hid htk
        clear hno hya htk hsk hO hal
        by_cases h4 : sk.kind = 4
        · have HS := Lib.hid (show shS (ad dx) (ad dy) sk = ⟨sk.kind, sk.x, sk.y, sk.cx, sk.cy⟩ by unfold shS; rw [if_pos h4])
          have h4' : (sk.kind == 4) = true := by simp [h4]
          have h4n : (sk.kind != 4) = false := by simp [h4]
          have h3' : (sk.kind == 3) = false := by simp [h4]
          clear h4
          go_wp2_with fail
          refine (path_near_any _ _ _ [sk.x, sk.y, sk.cx, sk.cy] _ (by simp [ints]) (sl_new (ints [sk.x, sk.y, sk.cx, sk.cy]) (by simp) rfl)).mono ?_; rintro e w3 ⟨rfl, rfl⟩
          cases hnr : nearB [sk.x, sk.y, sk.cx, sk.cy]
          · have HE1 := Lib.hid (show E = ([], 2) by rw [← HE.out, HNO.out (by rw [HS.out]; exact hnr)])
            go_wp2
            go_ret2
            rw [HE1.out]
            exact ⟨none, 0, rfl, own_nil, btr hb1 (bal (bal hbr _) _)⟩
          · have HAL := Lib.hid (HYA.out (by rw [HS.out]; exact hnr))
            clear HE HNO HYA
            go_wp2_with (at_builtin; refine wpList_app rfl _ _ 34 rfl w1.heap.size sgT rfl (own_below hown (bal (bal (bal (Below.refl _ _) _) _) _)) (sgc ⟨sk.kind, sk.x, sk.y, sk.cx, sk.cy⟩) rfl (sl_newN _ (by simp) rfl) (oneCell_sgc _) (by omega) (bal (bal (bal hbr _) _) _).size ?_; intro A3 c3 w3 hown3 hg3 hat3)
            go_roundw
            case rel => exact ⟨k + 1, A3, c3, by omega, rfl, by go_num, grown_below (bal (bal (bal hbr _) _) _) hg3 (own_below hown (bal (bal (bal (Below.refl _ _) _) _) _)), HAL, by rw [HTK.out, HS.out, sgs_app, sgs_one]; exact hown3⟩
            case measure => simp [intOf]; omega
        · have h4' : (sk.kind == 4) = false := by simp [h4]
          have h4n : (sk.kind != 4) = true := by simp [h4]
          by_cases h3 : sk.kind = 3
          · have HS := Lib.hid (show shS (ad dx) (ad dy) sk = ⟨sk.kind, wrap64 (sk.x + dx), wrap64 (sk.y + dy), wrap64 (sk.cx + dx), wrap64 (sk.cy + dy)⟩ by unfold shS; rw [if_neg h4, if_pos h3, if_pos h3]; rfl)
            have h3' : (sk.kind == 3) = true := by simp [h3]
            clear h4 h3
            go_wp2_with fail
            refine (path_near_any _ _ _ [wrap64 (sk.x + dx), wrap64 (sk.y + dy), wrap64 (sk.cx + dx), wrap64 (sk.cy + dy)] _ (by simp [ints]) (sl_new (ints [wrap64 (sk.x + dx), wrap64 (sk.y + dy), wrap64 (sk.cx + dx), wrap64 (sk.cy + dy)]) (by simp) rfl)).mono ?_; rintro e w3 ⟨rfl, rfl⟩
            cases hnr : nearB [wrap64 (sk.x + dx), wrap64 (sk.y + dy), wrap64 (sk.cx + dx), wrap64 (sk.cy + dy)]
            · have HE1 := Lib.hid (show E = ([], 2) by rw [← HE.out, HNO.out (by rw [HS.out]; exact hnr)])
              go_wp2
              go_ret2
              rw [HE1.out]
              exact ⟨none, 0, rfl, own_nil, btr hb1 (bal (bal hbr _) _)⟩
            · have HAL := Lib.hid (HYA.out (by rw [HS.out]; exact hnr))
              clear HE HNO HYA
              go_wp2_with (at_builtin; refine wpList_app rfl _ _ 34 rfl w1.heap.size sgT rfl (own_below hown (bal (bal (bal (Below.refl _ _) _) _) _)) (sgc ⟨sk.kind, wrap64 (sk.x + dx), wrap64 (sk.y + dy), wrap64 (sk.cx + dx), wrap64 (sk.cy + dy)⟩) rfl (sl_newN _ (by simp) rfl) (oneCell_sgc _) (by omega) (bal (bal (bal hbr _) _) _).size ?_; intro A3 c3 w3 hown3 hg3 hat3)
              go_roundw
              case rel => exact ⟨k + 1, A3, c3, by omega, rfl, by go_num, grown_below (bal (bal (bal hbr _) _) _) hg3 (own_below hown (bal (bal (bal (Below.refl _ _) _) _) _)), HAL, by rw [HTK.out, HS.out, sgs_app, sgs_one]; exact hown3⟩
              case measure => simp [intOf]; omega
          · have HS := Lib.hid (show shS (ad dx) (ad dy) sk = ⟨sk.kind, wrap64 (sk.x + dx), wrap64 (sk.y + dy), sk.cx, sk.cy⟩ by unfold shS; rw [if_neg h4, if_neg h3, if_neg h3]; rfl)
            have h3' : (sk.kind == 3) = false := by simp [h3]
            clear h4 h3
            go_wp2_with fail
            refine (path_near_any _ _ _ [wrap64 (sk.x + dx), wrap64 (sk.y + dy), sk.cx, sk.cy] _ (by simp [ints]) (sl_new (ints [wrap64 (sk.x + dx), wrap64 (sk.y + dy), sk.cx, sk.cy]) (by simp) rfl)).mono ?_; rintro e w3 ⟨rfl, rfl⟩
            cases hnr : nearB [wrap64 (sk.x + dx), wrap64 (sk.y + dy), sk.cx, sk.cy]
            · have HE1 := Lib.hid (show E = ([], 2) by rw [← HE.out, HNO.out (by rw [HS.out]; exact hnr)])
              go_wp2
              go_ret2
              rw [HE1.out]
              exact ⟨none, 0, rfl, own_nil, btr hb1 (bal (bal hbr _) _)⟩
            · have HAL := Lib.hid (HYA.out (by rw [HS.out]; exact hnr))
              clear HE HNO HYA
              go_wp2_with (at_builtin; refine wpList_app rfl _ _ 34 rfl w1.heap.size sgT rfl (own_below hown (bal (bal (bal (Below.refl _ _) _) _) _)) (sgc ⟨sk.kind, wrap64 (sk.x + dx), wrap64 (sk.y + dy), sk.cx, sk.cy⟩) rfl (sl_newN _ (by simp) rfl) (oneCell_sgc _) (by omega) (bal (bal (bal hbr _) _) _).size ?_; intro A3 c3 w3 hown3 hg3 hat3)
              go_roundw
              case rel => exact ⟨k + 1, A3, c3, by omega, rfl, by go_num, grown_below (bal (bal (bal hbr _) _) _) hg3 (own_below hown (bal (bal (bal (Below.refl _ _) _) _) _)), HAL, by rw [HTK.out, HS.out, sgs_app, sgs_one]; exact hown3⟩
              case measure => simp [intOf]; omega
      · obtain rfl : k = n := by omega
        have htake : l.take k = l := List.take_of_length_le (by omega)
        rw [htake] at hown hal
        have HE1 := Lib.hid (show E = (l.map (shS (ad dx) (ad dy)), 0) by rw [← HE.out, shiftL_all HOK.out hal.out])
        clear htake HE
        go_wp2
        go_ret2
        have hlen : (l.map (shS (ad dx) (ad dy))).length = k := by rw [List.length_map]; exact hl
        rw [HE1.out]
        simp only
        rw [hlen]
        exact ⟨A2, c2, rfl, own_mono hown hb1.size, btr hb1 hbr⟩

end Go.Proofs.Ytahiffaocakhjaa
