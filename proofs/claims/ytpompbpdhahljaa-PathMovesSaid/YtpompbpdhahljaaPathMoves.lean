/- The walk of PathMoves: it returns true. -/
import Derived.Test.YtpompbpdhahljaaKnown25
import Derived.Test.YtpompbpdhahljaaMade
import Derived.Test.YtpompbpdhahljaaBox2
import Derived.Test.YtpompbpdhahljaaMoveP
import Derived.Test.YtpompbpdhahljaaLimitP
import Derived.BigRegion
namespace Go.Proofs.Ytpompbpdhahljaa
open Go.RowKit

theorem far_any {l : List Sg} {bows : Bool} (hl : MadeOK l bows) : ∃ G : Int, shiftL (ad 16382) (ad 0) l = ([], G) ∧ (G == 2) = decide (0 < l.length) := by
  by_cases h0 : l = []
  · subst h0; exact ⟨0, rfl, rfl⟩
  · refine ⟨2, moves_far hl h0, ?_⟩
    have := List.length_pos_iff.2 h0
    simp [this]
theorem boxes_any {l m : List Sg} {bows : Bool} (hl : MadeOK l bows) {dx dy : Int} (hm : shiftL (ad dx) (ad dy) l = (m, 0)) (hb : l ≠ [] → boxL m = (shB dx dy (boxFrom l), true)) :
    ∃ b : Bx, (0 < l.length → (-32 ≤ b.x0 ∧ b.x0 < 288) ∧ (-32 ≤ b.y0 ∧ b.y0 < 288) ∧ (-32 ≤ b.x1 ∧ b.x1 < 288) ∧ (-32 ≤ b.y1 ∧ b.y1 < 288)) ∧ boxL l = (b, decide (0 < l.length)) ∧ boxL m = (if 0 < l.length then shB dx dy b else ⟨0, 0, 0, 0⟩, decide (0 < l.length)) := by
  by_cases h0 : l = []
  · subst h0
    have : m = [] := by
      have h1 : shiftL (ad dx) (ad dy) [] = ([], 0) := rfl
      rw [h1] at hm; injection hm with hm _; exact hm.symm
    subst this
    exact ⟨⟨0, 0, 0, 0⟩, fun h => by simp at h, rfl, rfl⟩
  · have hp := List.length_pos_iff.2 h0
    refine ⟨boxFrom l, fun _ => box_co hl h0, ?_, ?_⟩
    · unfold boxL; rw [if_neg (by simp [h0, hl.may])]; simp [hp]
    · rw [hb h0, if_pos hp]; simp [hp]

set_option maxRecDepth 100000 in
set_option maxHeartbeats 8000000 in
theorem PathMoves_any (A : Option Addr) (n c : Nat) (dx dy : Int) (w : World) (h : InA w A n) (hnc : n ≤ c) (hcm : c ≤ 9223372036854775807) :
    Calls Try.prog 14 #[.slice A n c, .int .i64 dx, .int .i64 dy] w fun e w' => e = .returned (.bool true) ∧ Below w.heap.size w w' := by
  obtain ⟨px, hpx⟩ : ∃ v, v = placeI dx 4000 := ⟨_, rfl⟩
  obtain ⟨py, hpy⟩ : ∃ v, v = placeI dy 4000 := ⟨_, rfl⟩
  have hpxb : 0 ≤ px ∧ px < 4000 := by rw [hpx]; exact placeI_range dx 4000 (by omega)
  have hpyb : 0 ≤ py ∧ py < 4000 := by rw [hpy]; exact placeI_range dy 4000 (by omega)
  have HPX := Lib.hid hpx
  have HPY := Lib.hid hpy
  clear hpx hpy
  obtain ⟨X, hX⟩ : ∃ X, X = px - 2000 := ⟨_, rfl⟩
  obtain ⟨Y, hY⟩ : ∃ Y, Y = py - 2000 := ⟨_, rfl⟩
  have hXb : -2000 ≤ X ∧ X < 2000 := by omega
  have hYb : -2000 ≤ Y ∧ Y < 2000 := by omega
  have HX := Lib.hid hX
  have HY := Lib.hid hY
  clear hX hY
  go_enter Try.func14, Try.ntmps14
  go_wp2_with fail
  refine (known25_any _).mono ?_; rintro e w1 ⟨rfl, hb1⟩
  go_wp2_with fail
  refine (Made_any A n c true w1 (h.below hb1) hnc hcm).mono ?_; rintro e w2 ⟨l, A2, c2, rfl, hown2, hmd2, hb2⟩
  have B2 : Below w.heap.size w w2 := btr hb1 hb2
  have hp2 := own_sl hown2
  have hl12 := hmd2.2.1
  obtain ⟨m, hm1, hm2, hm3, hm4, hm5⟩ := moves hmd2 hXb hYb
  obtain ⟨G, hG1, hG2⟩ := far_any hmd2
  obtain ⟨b, hbb, hbx1, hbx2⟩ := boxes_any hmd2 hm1 hm5
  obtain ⟨el, hel⟩ : ∃ el, edgesL l = el := ⟨_, rfl⟩
  have hco := edges_co l
  rw [hel] at hm4 hco
  have HM1 := Lib.hid hm1
  have HM3 := Lib.hid hm3
  have HM4 := Lib.hid hm4
  have HEL := Lib.hid hel
  have HCO := Lib.hid hco
  have HG1 := Lib.hid hG1
  have HBB := Lib.hid hbb
  have HBX1 := Lib.hid hbx1
  have HBX2 := Lib.hid hbx2
  clear hb1 hb2 hown2 hmd2 hm1 hm3 hm4 hm5 hel hco hG1 hbb hbx1 hbx2
  go_wp2_with fail
  refine (Place_any dx 4000 _ (by omega) (by omega)).mono ?_
  rintro e w3 ⟨rfl, rfl⟩
  rw [← HPX.out]
  go_wp2_with fail
  refine (Place_any dy 4000 _ (by omega) (by omega)).mono ?_
  rintro e w3 ⟨rfl, rfl⟩
  rw [← HPY.out]
  go_wp2_with fail
  rw [← HX.out, ← HY.out]
  refine (Shift_any _ _ _ _ _ l _ _ (by omega) hp2 HM1.out).mono ?_; rintro e w3 ⟨A3, c3, rfl, hown3, hb3⟩
  have hp3 := hp2.below hb3
  have hq3 := own_sl hown3
  rw [hm2] at hq3 ⊢
  have B3 := btr B2 hb3
  clear hb3 hown3 hp2 B2
  go_wp2_with fail
  refine (Shift_any _ _ _ _ _ m _ _ (by omega) hq3 HM3.out).mono ?_; rintro e w4 ⟨A4, c4, rfl, hown4, hb4⟩
  have hp4 := hp3.below hb4
  have hq4 := hq3.below hb4
  have hr4 := own_sl hown4
  have B4 := btr B3 hb4
  clear hb4 hown4 hp3 hq3 B3
  go_wp2_with fail
  refine (Shift_any _ _ _ _ _ l _ _ (by omega) hp4 HG1.out).mono ?_; rintro e w5 ⟨A5, c5, rfl, -, hb5⟩
  have hp5 := hp4.below hb5
  have hq5 := hq4.below hb5
  have hr5 := hr4.below hb5
  have B5 := btr B4 hb5
  clear hb5 hp4 hq4 hr4 B4
  go_wp2_with fail
  refine (PEdges_any _ _ _ l el _ (by omega) hp5 HEL.out).mono ?_; rintro e w6 ⟨A6, c6, rfl, hown6, hb6, hel5⟩
  have hp6 := hp5.below hb6
  have hq6 := hq5.below hb6
  have hr6 := hr5.below hb6
  have he6 := own_sl hown6
  have B6 := btr B5 hb6
  clear hb6 hp5 hq5 hr5 hown6 B5
  go_wp2_with fail
  refine (PEdges_any _ _ _ m _ _ (by omega) hq6 HM4.out).mono ?_; rintro e w7 ⟨A7, c7, rfl, hown7, hb7, -⟩
  have hp7 := hp6.below hb7
  have hq7 := hq6.below hb7
  have hr7 := hr6.below hb7
  have he7 := he6.below hb7
  have hf7 := own_sl hown7
  have B7 := btr B6 hb7
  obtain ⟨L, hL⟩ : ∃ L, el.length = L := ⟨_, rfl⟩
  have hL2 : (el.map (shE (· + X) (· + Y))).length = L := by rw [List.length_map]; exact hL
  rw [hL] at he7 hel5 ⊢
  rw [hL2] at hf7 ⊢
  have HL := Lib.hid hL
  have HL2 := Lib.hid hL2
  clear hb7 hp6 hq6 hr6 he6 hown7 B6 hL hL2
  go_wp2_with fail
  refine (sameSg_any _ _ _ _ _ _ l _ (by omega) hr7 hp7).mono ?_; rintro e w8 ⟨rfl, q8, rfl⟩
  obtain ⟨bl, hbl⟩ : ∃ bl, decide (0 < l.length) = bl := ⟨_, rfl⟩
  rw [hbl] at hG2
  have hbl2 : decide (0 < (l.length : Int)) = bl := by rw [← hbl]; simp
  have HBL := Lib.hid hbl
  have hp8 := hp7.drewN q8
  have hq8 := hq7.drewN q8
  have he8 := he7.drewN q8
  have hf8 := hf7.drewN q8
  have B8 := bdrewN B7 q8
  generalize hw8 : w7.drewN q8 = w8 at *
  clear hw8 hp7 hq7 hr7 he7 hf7 B7
  go_wp2_with fail
  go_loopw [18] (fun i wr => ∃ k : Nat, k ≤ L ∧ i = .int .i64 (k : Int) ∧ Below w8.heap.size w8 wr) (fun i _ => L - (intOf i).toNat)
  case atStart => exact ⟨0, by omega, rfl, Below.refl _ _⟩
  case round =>
    obtain ⟨k, hk, rfl, hbi⟩ := hrel
    have hsi := hbi.size
    by_cases hlt : k < L
    · have hka : k < el.length := by rw [HL.out]; exact hlt
      have hkb : k < (el.map (shE (· + X) (· + Y))).length := by rw [HL2.out]; exact hlt
      obtain ⟨bE, oE, rfl, hbE, e0, e1, e2, e3, e4, e5, e6⟩ := he8.ed k hlt hka
      obtain ⟨bF, oF, rfl, hbF, f0, f1, f2, f3, f4, f5, f6⟩ := hf8.ed k hlt hkb
      have hkt : (el.map (shE (· + X) (· + Y)))[k] = shE (· + X) (· + Y) el[k] := List.getElem_map ..
      have hok := HCO.out el[k] (List.getElem_mem hka)
      rw [hkt] at f0 f1 f2 f3 f4 f5 f6
      obtain ⟨ed, hed⟩ : ∃ ed, ed = el[k] := ⟨_, rfl⟩
      rw [← hed] at e0 e1 e2 e3 e4 e5 e6 f0 f1 f2 f3 f4 f5 f6 hok
      rw [edOK_iff] at hok
      obtain ⟨⟨o1, o2⟩, ⟨o3, o4⟩, ⟨o5, o6⟩, ⟨o7, o8⟩, ⟨o9, o10⟩, ⟨o11, o12⟩, -⟩ := hok
      obtain ⟨hX1, hX2⟩ := hXb
      obtain ⟨hY1, hY2⟩ := hYb
      simp only [shE] at f0 f1 f2 f3 f4 f5 f6
      have E0 := (later_cell hbi hbE).trans e0
      have E1 := (later_cell hbi hbE).trans e1
      have E2 := (later_cell hbi hbE).trans e2
      have E3 := (later_cell hbi hbE).trans e3
      have E4 := (later_cell hbi hbE).trans e4
      have E5 := (later_cell hbi hbE).trans e5
      have E6 := (later_cell hbi hbE).trans e6
      have F0 := (later_cell hbi hbF).trans f0
      have F1 := (later_cell hbi hbF).trans f1
      have F2 := (later_cell hbi hbF).trans f2
      have F3 := (later_cell hbi hbF).trans f3
      have F4 := (later_cell hbi hbF).trans f4
      have F5 := (later_cell hbi hbF).trans f5
      have F6 := (later_cell hbi hbF).trans f6
      have hE9 : bE < wr.heap.size := by omega
      have hF9 : bF < wr.heap.size := by omega
      clear hkt hed e0 e1 e2 e3 e4 e5 e6 f0 f1 f2 f3 f4 f5 f6 hka hkb hbl hbl2 hG2
      cases hbt : ed.bent
      · rw [hbt] at E2 F2
        simp only [hbt, Bool.false_eq_true, if_false] at F3 F4
        clear hbt
        go_wp2_with fail
        go_region
        all_goals
          clear E0 E1 E2 E3 E4 E5 E6 F0 F1 F2 F3 F4 F5 F6
          go_wp2_with fail
          go_roundw
          case rel => exact ⟨k + 1, by omega, by go_num, bdrew (bal (bal hbi _) _)⟩
          case measure => simp [intOf]; omega
      · rw [hbt] at E2 F2
        simp only [hbt, if_true] at F3 F4
        clear hbt
        go_wp2_with fail
        go_region
        all_goals
          clear E0 E1 E2 E3 E4 E5 E6 F0 F1 F2 F3 F4 F5 F6
          go_wp2_with fail
          go_roundw
          case rel => exact ⟨k + 1, by omega, by go_num, bdrew (bal (bal hbi _) _)⟩
          case measure => simp [intOf]; omega
    · obtain rfl : k = L := by omega
      have hpo := hp8.below hbi
      have hqo := hq8.below hbi
      have Bo := btr B8 hbi
      clear he8 hf8 hp8 hq8 hbl hbl2 hG2
      go_wp2_with fail
      refine (Box_any _ _ _ l _ _ (by omega) hpo HBX1.out).mono ?_; rintro e w9 ⟨rfl, hb9⟩
      have hq9 := hqo.below hb9
      have B9 := btr Bo hb9
      clear hb9 hpo hqo Bo
      go_wp2_with fail
      refine (Box_any _ _ _ m _ _ (by omega) hq9 HBX2.out).mono ?_; rintro e w10 ⟨rfl, hb10⟩
      have B10 := btr B9 hb10
      clear hb10 hq9 B9
      simp only
      rw [HBL.out]
      obtain ⟨hX1, hX2⟩ := hXb
      obtain ⟨hY1, hY2⟩ := hYb
      cases bl
      · have hp : ¬ 0 < l.length := of_decide_eq_false HBL.out
        rw [if_neg hp]
        go_wp2
        go_ret
        exact ⟨rfl, B10⟩
      · have hp : 0 < l.length := of_decide_eq_true HBL.out
        obtain ⟨⟨o1, o2⟩, ⟨o3, o4⟩, ⟨o5, o6⟩, ⟨o7, o8⟩⟩ := HBB.out hp
        rw [if_pos hp]
        simp only [shB]
        go_wp2
        go_ret
        exact ⟨rfl, B10⟩
end Go.Proofs.Ytpompbpdhahljaa
