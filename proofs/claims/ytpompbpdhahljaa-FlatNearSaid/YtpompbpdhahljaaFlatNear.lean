/- The walk of FlatNear: it returns true. -/
import Derived.Test.YtpompbpdhahljaaNearP
import Derived.Test.YtpompbpdhahljaaKnown27
import Derived.Test.YtpompbpdhahljaaEdge
import Derived.Deep.RegionWith
import Derived.Deep.RegionHeld3
import Derived.Deep.DeepCutAuto
namespace Go.Proofs.Ytpompbpdhahljaa
open Go.RowKit

set_option maxRecDepth 100000 in
set_option maxHeartbeats 4000000 in
theorem FlatNear_any (A : Option Addr) (n c : Nat) (k : Int) (w : World) (h : InA w A n) (hnc : n ≤ c) (hcm : c ≤ 9223372036854775807) :
    Calls Try.prog 3 #[.slice A n c, .int .i64 k] w fun e w' => e = .returned (.bool true) ∧ Below w.heap.size w w' := by
  go_enter Try.func3, Try.ntmps3
  go_wp2_with fail
  refine (known27_any _).mono ?_; rintro e w1 ⟨rfl, hb1⟩
  go_wp2_with fail
  refine (Edge_any _ _ (LN_new (h.below hb1) hnc hcm rfl)).mono ?_; rintro e w2 ⟨⟨x0, y0, cx, cy, x1, y1, bent, rfl, ⟨a1, a2⟩, ⟨a3, a4⟩, ⟨a5, a6⟩, ⟨a7, a8⟩, ⟨a9, a10⟩, ⟨a11, a12⟩, hbt⟩, _, hg2⟩
  have B2 : Below w.heap.size w w2 := (bal hb1 (.cells #[.slice A n c] 29)).grown hg2 (bal hb1 (.cells #[.slice A n c] 29)).size (fun q hq => by injection hq with hq; subst hq; exact hb1.size)
  clear hg2 hb1
  have hok : edOK ⟨x0, y0, bent, cx, cy, x1, y1⟩ = true := edOK_mk (by omega) (by omega) (by omega) (by omega) (by omega) (by omega) hbt
  obtain ⟨L, hL⟩ : ∃ L, lns ⟨x0, y0, bent, cx, cy, x1, y1⟩ = L := ⟨_, rfl⟩
  have HL := Lib.hid hL
  clear hL hbt
  have HOK := Lib.hid hok
  clear hok
  go_wp2_with fail
  refine (Edges_any _ _ _ _ _ _ _ L _ HL.out).mono ?_; rintro e w3 ⟨A3, c3, rfl, hown, hb3⟩
  obtain ⟨hc3, hf3⟩ := bcell hb3
  have hz3 : w2.heap.size < w3.heap.size := by have := hb3.size; simp at this; omega
  go_wp2_with fail
  go_quiet (fail)
  obtain ⟨m, hm⟩ : ∃ m, L.length = m := ⟨_, rfl⟩
  rw [hm]
  rw [hm] at hown
  have B3 : Below w.heap.size w w3 := btr (bal B2 _) hb3
  have cE : ∀ i, w3.cell? ⟨w2.heap.size, i, none⟩ = (edc ⟨x0, y0, bent, cx, cy, x1, y1⟩)[i]? := fun i => by
    rw [later_cell hb3 (by simp), new_cell]; simp [edc]
  have hc8 : m = 1 ∨ m = 2 ∨ m = 4 ∨ m = 8 ∨ m = 16 ∨ m = 32 ∨ m = 64 ∨ m = 128 := by rw [← hm, ← HL.out]; exact lns_count HOK.out
  have HC8 := Lib.hid hc8
  have hm1 : 1 ≤ m ∧ m ≤ 128 := by omega
  obtain ⟨hm1, hm2⟩ := hm1
  have HM := Lib.hid hm
  have HCE := Lib.hid cE
  have e0 : w3.cell? ⟨w2.heap.size, 0, none⟩ = some (.int .i64 x0) := cE 0
  have e1 : w3.cell? ⟨w2.heap.size, 1, none⟩ = some (.int .i64 y0) := cE 1
  have e2 : w3.cell? ⟨w2.heap.size, 2, none⟩ = some (.bool bent) := cE 2
  have e3 : w3.cell? ⟨w2.heap.size, 3, none⟩ = some (.int .i64 cx) := cE 3
  have e4 : w3.cell? ⟨w2.heap.size, 4, none⟩ = some (.int .i64 cy) := cE 4
  have e5 : w3.cell? ⟨w2.heap.size, 5, none⟩ = some (.int .i64 x1) := cE 5
  have e6 : w3.cell? ⟨w2.heap.size, 6, none⟩ = some (.int .i64 y1) := cE 6
  clear hc8 hm cE hc3 hf3 hb3
  obtain ⟨m1, hm1'⟩ : ∃ v, v = (if x1 < x0 then x1 else x0) := ⟨_, rfl⟩
  obtain ⟨m2, hm2'⟩ : ∃ v, v = (if y1 < y0 then y1 else y0) := ⟨_, rfl⟩
  obtain ⟨m3, hm3'⟩ : ∃ v, v = (if x0 < x1 then x1 else x0) := ⟨_, rfl⟩
  obtain ⟨m4, hm4'⟩ : ∃ v, v = (if y0 < y1 then y1 else y0) := ⟨_, rfl⟩
  rw [← hm1', ← hm2', ← hm3', ← hm4']
  have HB : Hid ((m1 = min x0 x1 ∧ m3 = max x0 x1) ∧ m2 = min y0 y1 ∧ m4 = max y0 y1) := by
    refine ⟨⟨?_, ?_⟩, ?_, ?_⟩
    · rw [hm1']; split <;> omega
    · rw [hm3']; split <;> omega
    · rw [hm2']; split <;> omega
    · rw [hm4']; split <;> omega
  clear hm1' hm2' hm3' hm4'
  have hg : ∀ i (hi : i < L.length), (-32 ≤ L[i].x0 ∧ L[i].x0 ≤ 288) ∧ (-32 ≤ L[i].y0 ∧ L[i].y0 ≤ 288) ∧ (-32 ≤ L[i].x1 ∧ L[i].x1 ≤ 288) ∧ (-32 ≤ L[i].y1 ∧ L[i].y1 ≤ 288) := fun i hi => by
    have := lns_range (a := -32) (b := 288) HOK.out (by simp only; omega) (by simp only; omega) (by simp only; omega) (by simp only; omega) (by simp only; omega) (by simp only; omega) i (by rw [HL.out]; exact hi)
    simpa only [HL.out] using this
  have HG := Lib.hid hg
  have hbx : ∀ i (hi : i < L.length), boxed ⟨x0, y0, bent, cx, cy, x1, y1⟩ L[i] := fun i hi => by
    have := lns_boxed HOK.out i (by rw [HL.out]; exact hi)
    simpa only [HL.out] using this
  have HBX := Lib.hid hbx
  clear hg hbx
  have hmd : ∀ i (hi : i < L.length), bent = true → midded ⟨x0, y0, bent, cx, cy, x1, y1⟩ L[i] m i := fun i hi hb => by
    have := lns_midded HOK.out hb i (by rw [HL.out]; exact hi)
    rw [← lns_cast HOK.out hb] at this
    simp only [HL.out, HM.out] at this
    exact this
  have HMID := Lib.hid hmd
  clear hmd e0 e1 e5 e6
  go_upto_if 50 with (fail)
  go_cut [7, 8, 9, 10] (fun s7 s8 s9 s10 wx => ∃ X0 Y0 X1 Y1 : Int, s7 = .int .i64 X0 ∧ s8 = .int .i64 Y0 ∧ s9 = .int .i64 X1 ∧ s10 = .int .i64 Y1 ∧ Hid (∀ i (hi : i < L.length), X0 ≤ L[i].x1 ∧ L[i].x1 ≤ X1 ∧ Y0 ≤ L[i].y1 ∧ L[i].y1 ≤ Y1) ∧ Below w3.heap.size w3 wx)
  case first =>
    as_aux_lemma =>
      cases bent
      · go_wp2_with fail
        go_meet
        refine ⟨m1, m2, m3, m4, rfl, rfl, rfl, rfl, fun i hi => ?_, by first | exact bdrewN (Below.refl _ _) _ | exact bdrewN (bdrewN (Below.refl _ _) _) _⟩
        have := HBX.out i hi
        obtain ⟨⟨b1, b2⟩, b3, b4⟩ := HB.out
        unfold boxed at this
        simp only [Bool.false_eq_true, if_false] at this
        omega
      · go_wp2_with fail
        go_quiet (fail)
        obtain ⟨X0, hX0⟩ : ∃ v, v = (if cx < m1 then cx else m1) := ⟨_, rfl⟩
        obtain ⟨Y0, hY0⟩ : ∃ v, v = (if cy < m2 then cy else m2) := ⟨_, rfl⟩
        obtain ⟨X1, hX1⟩ : ∃ v, v = (if m3 < cx then cx else m3) := ⟨_, rfl⟩
        obtain ⟨Y1, hY1⟩ : ∃ v, v = (if m4 < cy then cy else m4) := ⟨_, rfl⟩
        rw [← hX0, ← hY0, ← hX1, ← hY1]
        have HXY := Lib.hid (show (X0 ≤ cx ∧ X0 ≤ m1 ∧ (X0 = cx ∨ X0 = m1)) ∧ (Y0 ≤ cy ∧ Y0 ≤ m2 ∧ (Y0 = cy ∨ Y0 = m2)) ∧ (cx ≤ X1 ∧ m3 ≤ X1 ∧ (X1 = cx ∨ X1 = m3)) ∧ (cy ≤ Y1 ∧ m4 ≤ Y1 ∧ (Y1 = cy ∨ Y1 = m4)) from by
          rw [hX0, hY0, hX1, hY1]; refine ⟨?_, ?_, ?_, ?_⟩ <;> split <;> omega)
        clear hX0 hY0 hX1 hY1
        go_wp2_with fail
        go_meet
        refine ⟨_, _, _, _, rfl, rfl, rfl, rfl, fun i hi => ?_, by first | exact bdrewN (Below.refl _ _) _ | exact bdrewN (bdrewN (Below.refl _ _) _) _⟩
        have := HBX.out i hi
        obtain ⟨⟨b1, b2⟩, b3, b4⟩ := HB.out
        unfold boxed at this
        simp only [if_true] at this
        obtain ⟨q1, q2, q3, q4⟩ := HXY.out
        omega
  case rest =>
    obtain ⟨X0, Y0, X1, Y1, rfl, rfl, rfl, rfl, HR, hbq⟩ := hcut
    clear HB HBX e2 e3 e4
    go_upto_region 9 with (fail)
    go_cut [102] (fun s wx => s = .bool false ∧ Below w3.heap.size w3 wx)
    case first =>
      as_aux_lemma =>
        rcases HC8.out with rfl | rfl | rfl | rfl | rfl | rfl | rfl | rfl
        all_goals (go_wp2_with fail; go_meet; exact ⟨rfl, hbq⟩)
    case rest =>
      obtain ⟨rfl, hbc⟩ := hcut
      clear hbq
      go_wp2_with fail
      go_loopw [12] (fun i wr => ∃ j : Nat, j ≤ m ∧ i = .int .i64 j ∧ Below w3.heap.size w3 wr) (fun i _ => m - (intOf i).toNat)
      case atStart => exact ⟨0, by omega, rfl, hbc⟩
      case round =>
        obtain ⟨j, hj, rfl, hbr⟩ := hrel
        clear hbc
        by_cases hlt : j < m
        · as_aux_lemma =>
            have e0' : wr.cell? ⟨w2.heap.size, 0, none⟩ = some (.int .i64 x0) := (later_cell hbr hz3).trans (HCE.out 0)
            have e1' : wr.cell? ⟨w2.heap.size, 1, none⟩ = some (.int .i64 y0) := (later_cell hbr hz3).trans (HCE.out 1)
            have e2' : wr.cell? ⟨w2.heap.size, 2, none⟩ = some (.bool bent) := (later_cell hbr hz3).trans (HCE.out 2)
            have e3' : wr.cell? ⟨w2.heap.size, 3, none⟩ = some (.int .i64 cx) := (later_cell hbr hz3).trans (HCE.out 3)
            have e4' : wr.cell? ⟨w2.heap.size, 4, none⟩ = some (.int .i64 cy) := (later_cell hbr hz3).trans (HCE.out 4)
            have e5' : wr.cell? ⟨w2.heap.size, 5, none⟩ = some (.int .i64 x1) := (later_cell hbr hz3).trans (HCE.out 5)
            have e6' : wr.cell? ⟨w2.heap.size, 6, none⟩ = some (.int .i64 y1) := (later_cell hbr hz3).trans (HCE.out 6)
            have hjl : j < L.length := by rw [HM.out]; exact hlt
            obtain ⟨b, off, rfl, hbb, c0, c1, c2, c3, c4, c5, c6⟩ := (own_sl (own_below hown hbr)).ed j hlt hjl
            have f1 := HR.out j hjl
            have f2 := HG.out j hjl
            have f3 := HMID.out j hjl
            obtain ⟨s, hs⟩ : ∃ s, s = L[j] := ⟨_, rfl⟩
            rw [← hs] at c0 c1 c2 c3 c4 c5 c6 f1 f2 f3
            clear hs c2 c3 c4
            obtain ⟨f11, f12, f13, f14⟩ := f1
            obtain ⟨⟨f21, f22⟩, ⟨f23, f24⟩, ⟨f25, f26⟩, f27, f28⟩ := f2
            have F3 := Lib.hid f3
            clear f3
            obtain ⟨g1, g2⟩ := mul_bd (A := 320) (B := 256) (a := x0) (b := 2 * (m : Int) - 2 * (j : Int) - 1) (by omega) (by omega)
            obtain ⟨g3, g4⟩ := mul_bd (A := 81920) (B := 256) (a := x0 * (2 * (m : Int) - 2 * (j : Int) - 1)) (b := 2 * (m : Int) - 2 * (j : Int) - 1) (by omega) (by omega)
            obtain ⟨g5, g6⟩ := mul_bd (A := 640) (B := 256) (a := 2 * cx) (b := 2 * (j : Int) + 1) (by omega) (by omega)
            obtain ⟨g7, g8⟩ := mul_bd (A := 163840) (B := 256) (a := 2 * cx * (2 * (j : Int) + 1)) (b := 2 * (m : Int) - 2 * (j : Int) - 1) (by omega) (by omega)
            obtain ⟨g9, g10⟩ := mul_bd (A := 320) (B := 256) (a := x1) (b := 2 * (j : Int) + 1) (by omega) (by omega)
            obtain ⟨g11, g12⟩ := mul_bd (A := 81920) (B := 256) (a := x1 * (2 * (j : Int) + 1)) (b := 2 * (j : Int) + 1) (by omega) (by omega)
            obtain ⟨h1, h2⟩ := mul_bd (A := 320) (B := 256) (a := y0) (b := 2 * (m : Int) - 2 * (j : Int) - 1) (by omega) (by omega)
            obtain ⟨h3, h4⟩ := mul_bd (A := 81920) (B := 256) (a := y0 * (2 * (m : Int) - 2 * (j : Int) - 1)) (b := 2 * (m : Int) - 2 * (j : Int) - 1) (by omega) (by omega)
            obtain ⟨h5, h6⟩ := mul_bd (A := 640) (B := 256) (a := 2 * cy) (b := 2 * (j : Int) + 1) (by omega) (by omega)
            obtain ⟨h7, h8⟩ := mul_bd (A := 163840) (B := 256) (a := 2 * cy * (2 * (j : Int) + 1)) (b := 2 * (m : Int) - 2 * (j : Int) - 1) (by omega) (by omega)
            obtain ⟨h9, h10⟩ := mul_bd (A := 320) (B := 256) (a := y1) (b := 2 * (j : Int) + 1) (by omega) (by omega)
            obtain ⟨h11, h12⟩ := mul_bd (A := 81920) (B := 256) (a := y1 * (2 * (j : Int) + 1)) (b := 2 * (j : Int) + 1) (by omega) (by omega)
            obtain ⟨i1, i2⟩ := mul_bd (A := 2000) (B := 128) (a := (s.x0 + s.x1) * 2) (b := (m : Int)) (by omega) (by omega)
            obtain ⟨i3, i4⟩ := mul_bd (A := 256000) (B := 128) (a := (s.x0 + s.x1) * 2 * (m : Int)) (b := (m : Int)) (by omega) (by omega)
            obtain ⟨i5, i6⟩ := mul_bd (A := 2000) (B := 128) (a := (s.y0 + s.y1) * 2) (b := (m : Int)) (by omega) (by omega)
            obtain ⟨i7, i8⟩ := mul_bd (A := 256000) (B := 128) (a := (s.y0 + s.y1) * 2 * (m : Int)) (b := (m : Int)) (by omega) (by omega)
            obtain ⟨i9, i10⟩ := mul_bd (A := 1024) (B := 128) (a := 8 * (m : Int)) (b := (m : Int)) (by omega) (by omega)
            go_wp2_with fail
            go_quiet (fail)
            go_wp2_with fail
            go_quiet (fail)
            cases bent
            · go_wp2_with fail
              go_roundw
              case rel => exact ⟨j + 1, by omega, by go_num, by first | exact bdrewN (bdrewN hbr _) _ | exact bdrewN hbr _⟩
              case measure => simp [intOf]; omega
            · obtain ⟨⟨o1, o2⟩, o3, o4⟩ := F3.out rfl
              simp only at o1 o2 o3 o4
              go_wp2_with fail
              go_roundw
              case rel => exact ⟨j + 1, by omega, by go_num, by first | exact bdrewN (bdrewN hbr _) _ | exact bdrewN hbr _⟩
              case measure => simp [intOf]; omega
        · have e2' : 0 ≤ placeI k 8000 ∧ placeI k 8000 < 8000 := ⟨Int.emod_nonneg _ (by omega), Int.emod_lt_of_pos _ (by omega)⟩
          obtain ⟨e21, e22⟩ := e2'
          go_wp2_with (go_at_call 19; refine (Place_any _ _ _ (by omega) (by omega)).mono ?_; rintro e w' ⟨rfl, rfl⟩)
          have hcm := cnt_more (c := placeI k 8000) ⟨e21, e22⟩
          go_region_with (go_at_call 20; refine (Count_any _ _ _ _ _ _ _ _).mono ?_; rintro e w' ⟨rfl, hb1⟩; obtain ⟨hc1, hf1⟩ := bcell hb1)
          all_goals
            go_wp2
            go_ret
            refine ⟨rfl, ?_⟩
            go_light
            repeat (first | exact btr B3 hbr | refine bal ?_ _ | refine bdrew ?_ | refine bdrewN ?_ _ | refine btr ?_ (by assumption))
end Go.Proofs.Ytpompbpdhahljaa
