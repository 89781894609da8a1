/- tympanref25.Far, Shift, Join: what they return, and that what was there is as it was. -/
import Derived.Test.YtpompbpdhahljaaRefAdd2
import Derived.Test.YtpompbpdhahljaaShift
import Derived.Test.YtpompbpdhahljaaMoveP
import Derived.Deep.DeepCutAuto
namespace Go.Proofs.Ytpompbpdhahljaa
open Go.RowKit

def farB (v : Int) : Bool := decide (v < -16382) || decide (16382 < v)
theorem Far_any (v : Int) (w : World) : Calls Try.prog 77 #[.int .i64 v] w fun e w' => e = .returned (.bool (farB v)) ∧ w = w' := by
  by_cases h : v < -16382
  · have hf : farB v = true := by simp [farB, h]
    go_enter Try.func77, Try.ntmps77
    go_wp2
    go_ret
    exact ⟨by rw [hf]; rfl, rfl⟩
  · have hf : farB v = decide (16382 < v) := by simp [farB, h]
    have h1 : decide (v < -16382) = false := by simp; omega
    have HF := Lib.hid hf
    clear hf
    go_enter Try.func77, Try.ntmps77
    go_wp2
    go_ret
    exact ⟨by rw [HF.out]; rfl, rfl⟩
theorem piece_ok {f g : Int → Int} {s : Sg} (h : pieceB s = true) : okS (shS f g s) = pieceB (shS f g s) := by
  cases ho : okS (shS f g s)
  · cases hp : pieceB (shS f g s)
    · rfl
    · obtain ⟨c1, c2, c3, c4⟩ := pieceB_co hp
      unfold okS nearB at ho
      simp [c1, c2, c3, c4] at ho
  · rw [pieceB_sh h ho]
theorem ad_far {d v : Int} (hd : -9223372036854775808 ≤ d ∧ d ≤ 9223372036854775807) (hf : farB d = true) (hv : -8191 ≤ v ∧ v ≤ 8191) : co (ad d v) = false := by
  unfold farB at hf
  simp at hf
  apply co_no
  unfold ad wrap64
  omega
theorem shift_far {l : List Sg} {dx dy : Int} (h : mayB l = true) (h0 : 0 < l.length) (hdx : -9223372036854775808 ≤ dx ∧ dx ≤ 9223372036854775807) (hdy : -9223372036854775808 ≤ dy ∧ dy ≤ 9223372036854775807) (hf : farB dx = true ∨ farB dy = true) :
    shiftL (ad dx) (ad dy) l = ([], 2) := by
  have hk := may_first h h0
  obtain ⟨c1, c2, _, _⟩ := pieceB_co (may_piece h 0 h0)
  rw [co_iff] at c1 c2
  refine shiftL_not h h0 ?_
  unfold shS
  rw [if_neg (by rw [hk]; decide)]
  unfold okS nearB
  rcases hf with hf | hf
  · simp [ad_far hdx hf c1]
  · simp [ad_far hdy hf c2]

set_option maxRecDepth 100000 in
set_option maxHeartbeats 4000000 in
theorem ref_Shift_any (A : Option Addr) (n c : Nat) (dx dy : Int) (l : List Sg) (E : List Sg × Int) (w : World) (hm : n ≤ 100000) (hdx : -9223372036854775808 ≤ dx ∧ dx ≤ 9223372036854775807) (hdy : -9223372036854775808 ≤ dy ∧ dy ≤ 9223372036854775807) (h : Sl w 5 A n (sgs l)) (hE : shiftL (ad dx) (ad dy) l = E) :
    Calls Try.prog 55 #[.slice A n c, .int .i64 dx, .int .i64 dy] w fun e w' => ∃ A' c', e = .returned (.tuple #[.slice A' E.1.length c', .int .i64 E.2]) ∧
      w'.ownsRow w.heap.size 45 5 (.slice A' E.1.length c') E.1.length (sgs E.1) ∧ Below w.heap.size w w' := by
  have hl := h.sglen
  have HE := Lib.hid hE
  clear hE
  go_enter Try.func55, Try.ntmps55
  go_wp2_with fail
  refine (ref_May_any _ _ _ l _ (by omega) h).mono ?_; rintro e w1 ⟨rfl, hb1⟩
  cases hok : mayB l
  · have HE1 := Lib.hid (show E = ([], 1) by rw [← HE.out, shiftL, hok]; rfl)
    clear HE
    go_wp2
    go_ret2
    rw [HE1.out]
    exact ⟨none, 0, rfl, own_nil, hb1⟩
  · have hs1 := h.below hb1
    have hn3 : n ≤ 300 := by rw [← hl]; exact (mayB_from hok).2
    have HOK := Lib.hid hok
    clear h hok
    have hsk0 : E = shiftL (ad dx) (ad dy) l := HE.out.symm
    go_upto_region 3 with (fail)
    go_cut [24] (fun s wx => ∃ bl : Bool, Hid (bl = true ↔ (0 < n ∧ (farB dx = true ∨ farB dy = true))) ∧ s = .bool bl ∧ w1 = wx)
    case first =>
      by_cases hn0 : 0 < n
      · have hd1 : decide (0 < n) = true := by simp; omega
        have hd2 : decide (0 < (n : Int)) = true := by simp; omega
        go_wp2_with fail
        refine (Far_any _ _).mono ?_; rintro e w2 ⟨rfl, rfl⟩
        cases hf1 : farB dx
        · go_wp2_with fail
          refine (Far_any _ _).mono ?_; rintro e w2 ⟨rfl, rfl⟩
          go_wp2_with fail
          go_meet
          exact ⟨_, Lib.hid (by rw [hf1]; simp [hn0]), rfl, rfl⟩
        · go_wp2_with fail
          go_meet
          exact ⟨_, Lib.hid (by rw [hf1]; simp [hn0]), rfl, rfl⟩
      · have hd1 : decide (0 < n) = false := by simp; omega
        go_wp2_with fail
        go_meet
        exact ⟨_, Lib.hid (by simp [hn0]), rfl, rfl⟩
    case rest =>
     obtain ⟨bl, hbl, rfl, rfl⟩ := hcut
     clear hsk0
     cases bl
     rotate_left
     · have HE1 := Lib.hid (show E = ([], 2) by rw [← HE.out]; exact shift_far HOK.out (by have := (hbl.out.1 rfl).1; omega) hdx hdy (hbl.out.1 rfl).2)
       clear hbl
       go_wp2
       go_ret2
       rw [HE1.out]
       exact ⟨none, 0, rfl, own_nil, hb1⟩
     clear hbl
     go_wp2_with fail
     go_loopw [8, 9] (fun out i wr => ∃ k A' c', k ≤ n ∧ out = .slice A' k c' ∧ i = .int .i64 (k : Int) ∧ Below w1.heap.size w1 wr ∧ Hid (((l.take k).map (shS (ad dx) (ad dy))).all okS = true) ∧
       wr.ownsRow w1.heap.size 45 5 (.slice A' k c') k (sgs ((l.take k).map (shS (ad dx) (ad dy))))) (fun _ i _ => n - (intOf i).toNat)
     case atStart => exact ⟨0, none, 0, by omega, rfl, rfl, Below.refl _ _, Lib.hid (by simp), own_nil⟩
     case round =>
       obtain ⟨wo, rfl⟩ : ∃ wo : World, wo = wr := ⟨_, rfl⟩
       obtain ⟨k, A2, c2, hk, rfl, rfl, hbr, hal, hown⟩ := hrel
       have hsz := hbr.size
       by_cases hlt : k < n
       · have hkl : k < l.length := by omega
         obtain ⟨b, off, rfl, hb, d0, d1, d2, d3, d4⟩ := (hs1.below hbr).sg k hlt hkl
         have hno := shiftL_not (f := ad dx) (g := ad dy) HOK.out hkl
         have hya := sh_all (f := ad dx) (g := ad dy) hkl hal.out
         have htk := sh_take (f := ad dx) (g := ad dy) hkl
         obtain ⟨sk, hsk⟩ : ∃ s, s = l[k] := ⟨_, rfl⟩
         rw [← hsk] at d0 d1 d2 d3 d4 hno hya htk
         obtain ⟨O, hO⟩ : ∃ O, O = (l.take k).map (shS (ad dx) (ad dy)) := ⟨_, rfl⟩
         rw [← hO] at hown htk
         have hpc := piece_ok (f := ad dx) (g := ad dy) (may_piece HOK.out k hkl)
         rw [← hsk] at hpc
         have HPC := Lib.hid hpc
         have HNO := Lib.hid hno
         clear hpc
         have HYA := Lib.hid hya
         have HTK := Lib.hid htk
         clear hno hya htk hsk hO hal
         by_cases h4 : sk.kind = 4
         · have HS := Lib.hid (show shS (ad dx) (ad dy) sk = ⟨sk.kind, sk.x, sk.y, sk.cx, sk.cy⟩ by unfold shS; rw [if_pos h4])
           have h4' : (sk.kind == 4) = true := by simp [h4]
           have h4n : (sk.kind != 4) = false := by simp [h4]
           have h3' : (sk.kind == 3) = false := by simp [h4]
           clear h4
           go_wp2_with fail
           refine (piece_any sk.kind (sk.x) (sk.y) (sk.cx) (sk.cy) _).mono ?_; rintro e w2 ⟨rfl, hb2⟩
           have k0 : w2.cell? ⟨wo.heap.size, 0, none⟩ = some (.int .i64 (sk.kind)) := (later_cell hb2 (by simp)).trans (new_cell _ 0)
           have k1 : w2.cell? ⟨wo.heap.size, 1, none⟩ = some (.int .i64 (sk.x)) := (later_cell hb2 (by simp)).trans (new_cell _ 1)
           have k2 : w2.cell? ⟨wo.heap.size, 2, none⟩ = some (.int .i64 (sk.y)) := (later_cell hb2 (by simp)).trans (new_cell _ 2)
           have k3 : w2.cell? ⟨wo.heap.size, 3, none⟩ = some (.int .i64 (sk.cx)) := (later_cell hb2 (by simp)).trans (new_cell _ 3)
           have k4 : w2.cell? ⟨wo.heap.size, 4, none⟩ = some (.int .i64 (sk.cy)) := (later_cell hb2 (by simp)).trans (new_cell _ 4)
           have b2 : Below wo.heap.size wo w2 := btr (bal (Below.refl _ _) _) hb2
           clear hb2
           cases hnr : pieceB ⟨sk.kind, sk.x, sk.y, sk.cx, sk.cy⟩
           · have HE1 := Lib.hid (show E = ([], 2) by rw [← HE.out, HNO.out (by rw [HPC.out, HS.out]; exact hnr)])
             go_wp2
             go_ret2
             rw [HE1.out]
             exact ⟨none, 0, rfl, own_nil, btr hb1 (btr hbr b2)⟩
           · have HAL := Lib.hid (HYA.out (by rw [HPC.out, HS.out]; exact hnr))
             clear HE HNO HYA
             go_wp2_with (at_builtin; refine wpList_app rfl _ _ 35 rfl w1.heap.size sgT rfl (own_below hown (bal b2 _)) (sgc ⟨sk.kind, sk.x, sk.y, sk.cx, sk.cy⟩) rfl (sl_newN _ (by simp) rfl) (oneCell_sgc _) (by omega) (bal (btr hbr b2) _).size ?_; intro A3 c3 w3 hown3 hg3 hat3)
             go_roundw
             case rel => exact ⟨k + 1, A3, c3, by omega, rfl, by go_num, grown_below (bal (btr hbr b2) _) hg3 (own_below hown (bal b2 _)), HAL, by rw [HTK.out, HS.out, sgs_app, sgs_one]; exact hown3⟩
             case measure => simp [intOf]; omega
         · have h4' : (sk.kind == 4) = false := by simp [h4]
           have h4n : (sk.kind != 4) = true := by simp [h4]
           by_cases h3 : sk.kind = 3
           · have HS := Lib.hid (show shS (ad dx) (ad dy) sk = ⟨sk.kind, wrap64 (sk.x + dx), wrap64 (sk.y + dy), wrap64 (sk.cx + dx), wrap64 (sk.cy + dy)⟩ by unfold shS; rw [if_neg h4, if_pos h3, if_pos h3]; rfl)
             have h3' : (sk.kind == 3) = true := by simp [h3]
             clear h4 h3
             go_wp2_with fail
             refine (piece_any sk.kind (wrap64 (sk.x + dx)) (wrap64 (sk.y + dy)) (wrap64 (sk.cx + dx)) (wrap64 (sk.cy + dy)) _).mono ?_; rintro e w2 ⟨rfl, hb2⟩
             have k0 : w2.cell? ⟨wo.heap.size, 0, none⟩ = some (.int .i64 (sk.kind)) := (later_cell hb2 (by simp)).trans (new_cell _ 0)
             have k1 : w2.cell? ⟨wo.heap.size, 1, none⟩ = some (.int .i64 (wrap64 (sk.x + dx))) := (later_cell hb2 (by simp)).trans (new_cell _ 1)
             have k2 : w2.cell? ⟨wo.heap.size, 2, none⟩ = some (.int .i64 (wrap64 (sk.y + dy))) := (later_cell hb2 (by simp)).trans (new_cell _ 2)
             have k3 : w2.cell? ⟨wo.heap.size, 3, none⟩ = some (.int .i64 (wrap64 (sk.cx + dx))) := (later_cell hb2 (by simp)).trans (new_cell _ 3)
             have k4 : w2.cell? ⟨wo.heap.size, 4, none⟩ = some (.int .i64 (wrap64 (sk.cy + dy))) := (later_cell hb2 (by simp)).trans (new_cell _ 4)
             have b2 : Below wo.heap.size wo w2 := btr (bal (Below.refl _ _) _) hb2
             clear hb2
             cases hnr : pieceB ⟨sk.kind, wrap64 (sk.x + dx), wrap64 (sk.y + dy), wrap64 (sk.cx + dx), wrap64 (sk.cy + dy)⟩
             · have HE1 := Lib.hid (show E = ([], 2) by rw [← HE.out, HNO.out (by rw [HPC.out, HS.out]; exact hnr)])
               go_wp2
               go_ret2
               rw [HE1.out]
               exact ⟨none, 0, rfl, own_nil, btr hb1 (btr hbr b2)⟩
             · have HAL := Lib.hid (HYA.out (by rw [HPC.out, HS.out]; exact hnr))
               clear HE HNO HYA
               go_wp2_with (at_builtin; refine wpList_app rfl _ _ 35 rfl w1.heap.size sgT rfl (own_below hown (bal b2 _)) (sgc ⟨sk.kind, wrap64 (sk.x + dx), wrap64 (sk.y + dy), wrap64 (sk.cx + dx), wrap64 (sk.cy + dy)⟩) rfl (sl_newN _ (by simp) rfl) (oneCell_sgc _) (by omega) (bal (btr hbr b2) _).size ?_; intro A3 c3 w3 hown3 hg3 hat3)
               go_roundw
               case rel => exact ⟨k + 1, A3, c3, by omega, rfl, by go_num, grown_below (bal (btr hbr b2) _) hg3 (own_below hown (bal b2 _)), HAL, by rw [HTK.out, HS.out, sgs_app, sgs_one]; exact hown3⟩
               case measure => simp [intOf]; omega
           · have HS := Lib.hid (show shS (ad dx) (ad dy) sk = ⟨sk.kind, wrap64 (sk.x + dx), wrap64 (sk.y + dy), sk.cx, sk.cy⟩ by unfold shS; rw [if_neg h4, if_neg h3, if_neg h3]; rfl)
             have h3' : (sk.kind == 3) = false := by simp [h3]
             clear h4 h3
             go_wp2_with fail
             refine (piece_any sk.kind (wrap64 (sk.x + dx)) (wrap64 (sk.y + dy)) (sk.cx) (sk.cy) _).mono ?_; rintro e w2 ⟨rfl, hb2⟩
             have k0 : w2.cell? ⟨wo.heap.size, 0, none⟩ = some (.int .i64 (sk.kind)) := (later_cell hb2 (by simp)).trans (new_cell _ 0)
             have k1 : w2.cell? ⟨wo.heap.size, 1, none⟩ = some (.int .i64 (wrap64 (sk.x + dx))) := (later_cell hb2 (by simp)).trans (new_cell _ 1)
             have k2 : w2.cell? ⟨wo.heap.size, 2, none⟩ = some (.int .i64 (wrap64 (sk.y + dy))) := (later_cell hb2 (by simp)).trans (new_cell _ 2)
             have k3 : w2.cell? ⟨wo.heap.size, 3, none⟩ = some (.int .i64 (sk.cx)) := (later_cell hb2 (by simp)).trans (new_cell _ 3)
             have k4 : w2.cell? ⟨wo.heap.size, 4, none⟩ = some (.int .i64 (sk.cy)) := (later_cell hb2 (by simp)).trans (new_cell _ 4)
             have b2 : Below wo.heap.size wo w2 := btr (bal (Below.refl _ _) _) hb2
             clear hb2
             cases hnr : pieceB ⟨sk.kind, wrap64 (sk.x + dx), wrap64 (sk.y + dy), sk.cx, sk.cy⟩
             · have HE1 := Lib.hid (show E = ([], 2) by rw [← HE.out, HNO.out (by rw [HPC.out, HS.out]; exact hnr)])
               go_wp2
               go_ret2
               rw [HE1.out]
               exact ⟨none, 0, rfl, own_nil, btr hb1 (btr hbr b2)⟩
             · have HAL := Lib.hid (HYA.out (by rw [HPC.out, HS.out]; exact hnr))
               clear HE HNO HYA
               go_wp2_with (at_builtin; refine wpList_app rfl _ _ 35 rfl w1.heap.size sgT rfl (own_below hown (bal b2 _)) (sgc ⟨sk.kind, wrap64 (sk.x + dx), wrap64 (sk.y + dy), sk.cx, sk.cy⟩) rfl (sl_newN _ (by simp) rfl) (oneCell_sgc _) (by omega) (bal (btr hbr b2) _).size ?_; intro A3 c3 w3 hown3 hg3 hat3)
               go_roundw
               case rel => exact ⟨k + 1, A3, c3, by omega, rfl, by go_num, grown_below (bal (btr hbr b2) _) hg3 (own_below hown (bal b2 _)), HAL, by rw [HTK.out, HS.out, sgs_app, sgs_one]; exact hown3⟩
               case measure => simp [intOf]; omega
       · obtain rfl : k = n := by omega
         have htake : l.take k = l := List.take_of_length_le (by omega)
         rw [htake] at hown hal
         have HE1 := Lib.hid (show E = (l.map (shS (ad dx) (ad dy)), 0) by rw [← HE.out, shiftL_all HOK.out hal.out])
         clear htake HE
         go_wp2
         go_ret2
         have hlen : (l.map (shS (ad dx) (ad dy))).length = k := by rw [List.length_map]; exact hl
         rw [HE1.out]
         simp only
         rw [hlen]
         exact ⟨A2, c2, rfl, own_mono hown hb1.size, btr hb1 hbr⟩

set_option maxHeartbeats 1000000 in
theorem ref_Join_any (A B : Option Addr) (n c m d : Nat) (l k : List Sg) (E : List Sg × Int) (w : World) (hm : n ≤ 100000) (hm2 : m ≤ 100000) (hnc : n ≤ c) (h : Sl w 5 A n (sgs l)) (h2 : Sl w 5 B m (sgs k)) (hE : joinL l k = E) :
    Calls Try.prog 56 #[.slice A n c, .slice B m d] w fun e w' => ∃ A' c', e = .returned (.tuple #[.slice A' E.1.length c', .int .i64 E.2]) ∧
      w'.ownsRow w.heap.size 45 5 (.slice A' E.1.length c') E.1.length (sgs E.1) ∧ Below w.heap.size w w' := by
  have hl := h.sglen
  have hk := h2.sglen
  have HE := Lib.hid hE
  clear hE
  go_enter Try.func56, Try.ntmps56
  go_wp2_with fail
  refine (ref_May_any _ _ _ l _ (by omega) h).mono ?_; rintro e w1 ⟨rfl, hb1⟩
  have hs1 := h.below hb1
  have ht1 := h2.below hb1
  cases hok : mayB l
  · have HE1 := Lib.hid (show E = ([], 1) by rw [← HE.out, joinL, if_pos (.inl hok)])
    clear HE
    go_wp2
    go_ret2
    rw [HE1.out]
    exact ⟨none, 0, rfl, own_nil, hb1⟩
  · go_wp2_with fail
    refine (ref_May_any _ _ _ k _ (by omega) ht1).mono ?_; rintro e w2 ⟨rfl, hb2⟩
    have hs2 := hs1.below hb2
    have ht2 := ht1.below hb2
    have hB2 := btr hb1 hb2
    clear h h2 hs1 ht1
    cases hok2 : mayB k
    · have HE1 := Lib.hid (show E = ([], 1) by rw [← HE.out, joinL, if_pos (.inr hok2)])
      clear HE
      go_wp2
      go_ret2
      rw [HE1.out]
      exact ⟨none, 0, rfl, own_nil, hB2⟩
    · have hnn : ¬ (mayB l = false ∨ mayB k = false) := by simp [hok, hok2]
      have HJ := Lib.hid (show longL (if lastK l = 1 ∧ k ≠ [] then l.dropLast else l) k = E by rw [← HE.out]; unfold joinL; rw [if_neg hnn])
      clear hnn HE hok hok2
      by_cases h0 : m = 0
      · have hl0 := List.length_eq_zero_iff.1 (hk.trans h0)
        have HE1 := Lib.hid (show longL l k = E by rw [← HJ.out, if_neg (by simp [hl0])])
        clear HJ hl0
        subst h0
        go_wp2_with fail
        refine (copied_any _ _ _ _ _ _ l k E _ (by omega) (by omega) hs2 ht2 HE1.out).mono ?_
        rintro e w4 ⟨A4, c4, rfl, hown4, hb4⟩
        go_wp2
        go_ret2
        exact ⟨A4, c4, rfl, own_mono hown4 hB2.size, btr hB2 hb4⟩
      · have hd1 : decide (0 < m) = true := by simp; omega
        have hd2 : decide (0 < (m : Int)) = true := by simp; omega
        have hl0 : k ≠ [] := fun e => h0 (by rw [← hk, e]; rfl)
        by_cases h9 : n = 0
        · have hln := List.length_eq_zero_iff.1 (hl.trans h9)
          have HE1 := Lib.hid (show longL l k = E by rw [← HJ.out, if_neg (by rw [hln]; rintro ⟨e, _⟩; cases e)])
          clear HJ hln hl0 h0
          subst h9
          go_wp2_with fail
          refine (copied_any _ _ _ _ _ _ l k E _ (by omega) (by omega) hs2 ht2 HE1.out).mono ?_
          rintro e w4 ⟨A4, c4, rfl, hown4, hb4⟩
          go_wp2
          go_ret2
          exact ⟨A4, c4, rfl, own_mono hown4 hB2.size, btr hB2 hb4⟩
        · have he1 : decide (0 < n) = true := by simp; omega
          have he2 : decide (0 < (n : Int)) = true := by simp; omega
          have hn1 : 1 ≤ n := by omega
          obtain ⟨b, off, rfl, hb, f0, -⟩ := hs2.sg (n - 1) (by omega) (by omega)
          obtain ⟨g1, -, -⟩ := last_get (l := l) (by omega)
          simp only [hl] at g1
          rw [← g1] at f0
          clear g1 h9 h0
          by_cases hk1 : lastK l = 1
          · have HE1 := Lib.hid (show longL l.dropLast k = E by rw [← HJ.out, if_pos ⟨hk1, hl0⟩])
            have hk1' : (lastK l == 1) = true := by simp [hk1]
            clear hk1 HJ hl0
            go_wp2_with fail
            refine (copied_any _ _ _ _ _ _ l.dropLast k E _ (by omega) (by omega) hs2.front ht2 HE1.out).mono ?_
            rintro e w4 ⟨A4, c4, rfl, hown4, hb4⟩
            go_wp2
            go_ret2
            exact ⟨A4, c4, rfl, own_mono hown4 hB2.size, btr hB2 hb4⟩
          · have HE1 := Lib.hid (show longL l k = E by rw [← HJ.out, if_neg (by simp [hk1])])
            have hk1' : (lastK l == 1) = false := by simp [hk1]
            clear hk1 HJ hl0
            go_wp2_with fail
            refine (copied_any _ _ _ _ _ _ l k E _ (by omega) (by omega) hs2 ht2 HE1.out).mono ?_
            rintro e w4 ⟨A4, c4, rfl, hown4, hb4⟩
            go_wp2
            go_ret2
            exact ⟨A4, c4, rfl, own_mono hown4 hB2.size, btr hB2 hb4⟩

end Go.Proofs.Ytpompbpdhahljaa
