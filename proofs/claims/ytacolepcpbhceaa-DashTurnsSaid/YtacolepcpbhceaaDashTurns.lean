/- The walk of DashTurns: it returns true. -/
import Derived.Test.YtacolepcpbhceaaDash7
import Derived.Test.YtacolepcpbhceaaArr
import Derived.Deep.DeepCutAuto
namespace Go.Proofs.Ytacolepcpbhceaa
open Go.RowKit

theorem idx_0 (u v : Value) (w : World) : (Instr.index 51 (.agg #[u, v]) (.int .i64 0)).run Try.prog w = .ok u w := by kernel_rfl
theorem idx_1 (u v : Value) (w : World) : (Instr.index 51 (.agg #[u, v]) (.int .i64 1)).run Try.prog w = .ok v w := by kernel_rfl
theorem zero100 : Try.zeroCells50 = (ints (arr 100 (fun _ => 0))).toArray := by kernel_rfl

set_option maxRecDepth 100000 in
set_option maxHeartbeats 4000000 in
theorem DashTurns_any (long a b from_ : Int) (w : World) :
    Calls Try.prog 6 #[.int .i64 long, .int .i64 a, .int .i64 b, .int .i64 from_] w fun e w' => e = .returned (.bool true) ∧ Below w.heap.size w w' := by
  go_enter Try.func6, Try.ntmps6
  go_wp2_with fail
  refine (known35_any _).mono ?_; rintro e w1 ⟨rfl, hb1⟩
  go_wp2_with fail
  refine (Place_any long 100 _ (by omega) (by omega)).mono ?_; rintro e w' ⟨rfl, rfl⟩
  have hn : 0 ≤ placeI long 100 ∧ placeI long 100 < 100 := by unfold placeI; omega
  generalize placeI long 100 = n0 at *
  go_wp2_with fail
  refine (Place_any a 20 _ (by omega) (by omega)).mono ?_; rintro e w' ⟨rfl, rfl⟩
  have hp : 0 ≤ placeI a 20 ∧ placeI a 20 < 20 := by unfold placeI; omega
  generalize placeI a 20 = p0 at *
  go_wp2_with fail
  refine (Place_any b 20 _ (by omega) (by omega)).mono ?_; rintro e w' ⟨rfl, rfl⟩
  have hq : 0 ≤ placeI b 20 ∧ placeI b 20 < 20 := by unfold placeI; omega
  generalize placeI b 20 = q0 at *
  obtain ⟨n, hne⟩ : ∃ n : Nat, (n : Int) = 1 + n0 := ⟨(1 + n0).toNat, by omega⟩
  obtain ⟨p, hpe⟩ : ∃ p, p = 1 + p0 := ⟨_, rfl⟩
  obtain ⟨q, hqe⟩ : ∃ q, q = 1 + q0 := ⟨_, rfl⟩
  have hn1 : 1 ≤ n ∧ n ≤ 100 := by omega
  have hp1 : 1 ≤ p ∧ p ≤ 20 := by omega
  have hq1 : 1 ≤ q ∧ q ≤ 20 := by omega
  rw [← hne, ← hpe]
  have HQE := Lib.hid hqe
  have HP := Lib.hid hp1
  have HQ := Lib.hid hq1
  obtain ⟨hn1, hn2⟩ := hn1
  obtain ⟨hp1, hp2⟩ := hp1
  obtain ⟨hq1, hq2⟩ := hq1
  clear hne hpe hqe hn hp
  go_wp2_with fail
  rw [← HQE.out]
  clear hq HQE
  refine (Place_any from_ (p + q) _ (by omega) (by omega)).mono ?_; rintro e w' ⟨rfl, rfl⟩
  have hf0 : 0 ≤ placeI from_ (p + q) := Int.emod_nonneg _ (by omega)
  have hf1 : placeI from_ (p + q) < p + q := Int.emod_lt_of_pos _ (by omega)
  generalize placeI from_ (p + q) = f at *
  obtain ⟨X, hX⟩ : ∃ X, X = iv [p, q] f n := ⟨_, rfl⟩
  obtain ⟨Y, hY⟩ : ∃ Y, Y = iv [p, q] (f + p) n := ⟨_, rfl⟩
  obtain ⟨Z, hZ⟩ : ∃ Z, Z = iv [q, p] (f + q) n := ⟨_, rfl⟩
  obtain ⟨cx, lx⟩ := turn_cut (f := f) (n := n) (by omega) HP.out HQ.out
  obtain ⟨cy, ly⟩ := turn_cut (f := f + p) (n := n) (by omega) HP.out HQ.out
  obtain ⟨cz, lz⟩ := turn_cut (f := f + q) (n := n) (by omega) HQ.out HP.out
  have cw := (turn_cut (f := f + 3 * (p + q)) (n := n) (by omega) HP.out HQ.out).1
  rw [turn_whole HP.out HQ.out hf0, ← hX] at cw
  rw [← hX] at cx lx
  rw [← hY] at cy ly
  rw [← hZ] at cz lz
  have ix := iv_in (f := f) (n := (n : Int)) (row_pair HP.out HQ.out).1 (by omega)
  have iz := iv_in (f := f + q) (n := (n : Int)) (row_pair HQ.out HP.out).1 (by omega)
  rw [← hX] at ix
  rw [← hZ] at iz
  have hboth : ∀ s : Int, 0 ≤ s ∧ s < n → cov X s + cov Z s = 1 := fun s hs => by rw [hX, hZ]; exact turn_both (by omega) HP.out HQ.out hf0 hs
  have CX := Lib.hid cx
  have CY := Lib.hid cy
  have CZ := Lib.hid cz
  have CW := Lib.hid cw
  have IX := Lib.hid ix
  have IZ := Lib.hid iz
  have HB := Lib.hid hboth
  have HLM := Lib.hid (level_may (n := (n : Int)) (by omega) (by omega))
  have hRP := (row_pair HP.out HQ.out).1
  have HRP : Hid (OnOK [p, q]) := .inr ⟨hRP, by simp⟩
  have hRQ := (row_pair HQ.out HP.out).1
  have HRQ : Hid (OnOK [q, p]) := .inr ⟨hRQ, by simp⟩
  obtain ⟨mx, hmx⟩ : ∃ mx, X.length = mx := ⟨_, rfl⟩
  obtain ⟨my, hmy⟩ : ∃ my, Y.length = my := ⟨_, rfl⟩
  obtain ⟨mz, hmz⟩ : ∃ mz, Z.length = mz := ⟨_, rfl⟩
  rw [hmx] at lx
  rw [hmy] at ly
  rw [hmz] at lz
  have hlx : (X.flatMap sgI).length = 2 * mx := by rw [sgI_len, hmx]
  have hly : (Y.flatMap sgI).length = 2 * my := by rw [sgI_len, hmy]
  have hlz : (Z.flatMap sgI).length = 2 * mz := by rw [sgI_len, hmz]
  have HLX := Lib.hid hlx
  have HLY := Lib.hid hly
  have HLZ := Lib.hid hlz
  have HMX := Lib.hid hmx
  have HMZ := Lib.hid hmz
  clear cx cy cz cw ix iz hboth hRP hRQ hmx hmy hmz hlx hly hlz hX hY hZ
  go_wp2_with fail
  refine (level_any _ _).mono ?_; rintro e w2 ⟨A2, c2, rfl, hs2, hb2⟩
  go_wp2_with fail
  refine (Cut_is _ _ _ _ _ _ (levelL n) [p, q] f (X.flatMap sgI) 0 (2 * mx) _ (hs2.below (bal (Below.refl _ _) _)) HLM.out (level_nobow _) (sl_new (ints [p, q]) (by simp) rfl) HRP.out (by omega) CX.out HLX.out).mono ?_
  rintro e w3 ⟨A3, c3, rfl, hown3, hb3⟩
  have B3 := btr hb1 (btr (bal hb2 _) hb3)
  have hx3 := own_sl hown3
  clear hb1 hb2 hb3 hown3 hs2
  go_wp2_with fail
  refine (level_any _ _).mono ?_; rintro e w4 ⟨A4, c4, rfl, hs4, hb4⟩
  go_wp2_with fail
  refine (Cut_is _ _ _ _ _ _ (levelL n) [p, q] (f + p) (Y.flatMap sgI) 0 (2 * my) _ (hs4.below (bal (Below.refl _ _) _)) HLM.out (level_nobow _) (sl_new (ints [p, q]) (by simp) rfl) HRP.out (by omega) CY.out HLY.out).mono ?_
  rintro e w5 ⟨A5, c5, rfl, hown5, hb5⟩
  have B35 := btr (bal hb4 _) hb5
  have B5 := btr B3 B35
  have hx5 := hx3.below B35
  clear hb4 hb5 hown5 hs4 B35 B3 hx3
  go_wp2_with fail
  refine (level_any _ _).mono ?_; rintro e w6 ⟨A6, c6, rfl, hs6, hb6⟩
  go_wp2_with fail
  refine (Cut_is _ _ _ _ _ _ (levelL n) [q, p] (f + q) (Z.flatMap sgI) 0 (2 * mz) _ (hs6.below (bal (Below.refl _ _) _)) HLM.out (level_nobow _) (sl_new (ints [q, p]) (by simp) rfl) HRQ.out (by omega) CZ.out HLZ.out).mono ?_
  rintro e w7 ⟨A7, c7, rfl, hown7, hb7⟩
  have B57 := btr (bal hb6 _) hb7
  have B7 := btr B5 B57
  have hx7 := hx5.below B57
  have hz7 := own_sl hown7
  clear hb6 hb7 hown7 hs6 B57 B5 hx5
  go_wp2_with fail
  have hzz := ArrIn.new w7 Try.zeroCells50 50 _ _ rfl zero100
  have B8 := bal B7 (.cells Try.zeroCells50 50)
  have B78 := bal (Below.refl w7.heap.size w7) (.cells Try.zeroCells50 50)
  have hg8 : w7.heap.size < (w7.alloc (.cells Try.zeroCells50 50)).heap.size := by simp
  generalize w7.alloc (.cells Try.zeroCells50 50) = w8 at *
  have hx8 := hx7.below B78
  have hz8 := hz7.below B78
  have ix0 := idx_0 (.slice A3 (2 * mx) c3) (.slice A7 (2 * mz) c7)
  have ix1 := idx_1 (.slice A3 (2 * mx) c3) (.slice A7 (2 * mz) c7)
  go_loop [89] (fun i => ∃ kk : Nat, kk ≤ 2 ∧ i = .int .i64 (kk : Int)) (fun i => 2 - (intOf i).toNat)
  case atStart => exact ⟨0, by omega, rfl⟩
  case round =>
    obtain ⟨kk, hkk, rfl⟩ := hrel
    by_cases hk2 : kk < 2
    · have hc : kk = 0 ∨ kk = 1 := by omega
      rcases hc with rfl | rfl
      · have hxL := sgI_x X IX.out
        have hL := Lib.hid hxL
        clear hxL
        go_wp2
        go_loop [22] (fun i => ∃ j : Nat, j ≤ 2 * mx ∧ i = .int .i64 (j : Int)) (fun i => 2 * mx - (intOf i).toNat)
        case atStart => exact ⟨0, by omega, rfl⟩
        case round =>
          obtain ⟨j, hj, rfl⟩ := hrel
          by_cases hjl : j < 2 * mx
          · have hjk : j < (X.flatMap sgI).length := by rw [HLX.out]; exact hjl
            obtain ⟨bL, oL, rfl, hbL, -, d1, -, -, -⟩ := hx8.sg j hjl hjk
            obtain ⟨e1, e2⟩ := hL.out _ (List.getElem_mem hjk)
            obtain ⟨zx, hzx⟩ : ∃ zx, zx = (X.flatMap sgI)[j].x := ⟨_, rfl⟩
            rw [← hzx] at d1 e1 e2
            clear hzx
            go_wp2
            go_round
            case rel => exact ⟨j + 1, by omega, by go_num⟩
            case measure => simp [intOf]; omega
          · obtain rfl : j = 2 * mx := by omega
            go_wp2
            go_round
            case rel => exact ⟨1, by omega, by first | rfl | go_num⟩
            case measure => simp [intOf]
      · have hxL := sgI_x Z IZ.out
        have hL := Lib.hid hxL
        clear hxL
        go_wp2
        go_loop [22] (fun i => ∃ j : Nat, j ≤ 2 * mz ∧ i = .int .i64 (j : Int)) (fun i => 2 * mz - (intOf i).toNat)
        case atStart => exact ⟨0, by omega, rfl⟩
        case round =>
          obtain ⟨j, hj, rfl⟩ := hrel
          by_cases hjl : j < 2 * mz
          · have hjk : j < (Z.flatMap sgI).length := by rw [HLZ.out]; exact hjl
            obtain ⟨bL, oL, rfl, hbL, -, d1, -, -, -⟩ := hz8.sg j hjl hjk
            obtain ⟨e1, e2⟩ := hL.out _ (List.getElem_mem hjk)
            obtain ⟨zx, hzx⟩ : ∃ zx, zx = (Z.flatMap sgI)[j].x := ⟨_, rfl⟩
            rw [← hzx] at d1 e1 e2
            clear hzx
            go_wp2
            go_round
            case rel => exact ⟨j + 1, by omega, by go_num⟩
            case measure => simp [intOf]; omega
          · obtain rfl : j = 2 * mz := by omega
            go_wp2
            go_round
            case rel => exact ⟨2, by omega, by first | rfl | go_num⟩
            case measure => simp [intOf]
    · obtain rfl : kk = 2 := by omega
      have hz0 : arr 100 (fun _ => 0) = arr 100 (fun s => 0 + cov (X.take 0) s) := arr_congr fun i _ => by simp [cov]
      rw [hz0] at hzz
      have B88 : Below w7.heap.size w7 w8 := B78
      clear hz0 ix0 ix1
      go_wp2
      go_loopw [23] (fun i wr => ∃ (j i2 : Nat), j ≤ mx ∧ i2 ≤ 2 * mx ∧ Hid (i2 = 2 * j) ∧ i = .int .i64 (i2 : Int) ∧ Below w7.heap.size w7 wr ∧ ArrIn wr w7.heap.size 50 (arr 100 (fun s => 0 + cov (X.take j) s))) (fun i _ => 2 * mx - (intOf i).toNat)
      case atStart => exact ⟨0, 0, by omega, by omega, rfl, rfl, B88, hzz⟩
      case round =>
        obtain ⟨wo, rfl⟩ : ∃ wo : World, wo = wr := ⟨_, rfl⟩
        obtain ⟨j, i2, hj, hi2, hij, rfl, hbo, har⟩ := hrel
        have hij2 := hij.out
        by_cases hjl : j < mx
        · have hjk : j < X.length := by rw [HMX.out]; exact hjl
          have hk0 : 2 * j < (X.flatMap sgI).length := by rw [HLX.out]; omega
          have hk1 : 2 * j + 1 < (X.flatMap sgI).length := by rw [HLX.out]; omega
          obtain ⟨g0, g1⟩ := sgI_get X j hjk hk0 hk1
          obtain ⟨bL, oL, rfl, hbL7, -, d1, -, -, -⟩ := hx7.sg (2 * j) (by omega) hk0
          obtain ⟨bM, oM, eM, -, -, f1, -, -, -⟩ := hx7.sg (2 * j + 1) (by omega) hk1
          injection eM with eM; injection eM with e1 e2; subst e1; subst e2
          rw [g0] at d1
          rw [g1] at f1
          simp only at d1 f1
          obtain ⟨h0, h1, h2⟩ := IX.out _ (List.getElem_mem hjk)
          have htk : X.take (j + 1) = X.take j ++ [X[j]] := List.take_succ_eq_append_getElem hjk
          obtain ⟨qq, hqq⟩ : ∃ qq, qq = X[j] := ⟨_, rfl⟩
          rw [← hqq] at d1 f1 h0 h1 h2 htk
          have HTK := Lib.hid htk
          obtain ⟨sa, hsa⟩ : ∃ sa : Nat, qq.1 = sa := ⟨qq.1.toNat, by omega⟩
          obtain ⟨sb, hsb⟩ : ∃ sb : Nat, qq.2 = sb := ⟨qq.2.toNat, by omega⟩
          rw [hsa] at d1 h0 h1
          rw [hsb] at f1 h1 h2
          rw [← hij2] at d1 f1
          have HSA := Lib.hid hsa
          have HSB := Lib.hid hsb
          have hi3 : i2 + 1 < 2 * mx := by omega
          have D1 := (later_cell hbo hbL7).trans d1
          have F1 := (later_cell hbo hbL7).trans f1
          have hbd : ∀ s : Int, 0 ≤ (0 : Int) ∧ (0 : Int) ≤ 100 := fun _ => by omega
          have HBD := Lib.hid hbd
          have htl : ((X.take j).length : Int) ≤ 100 := by rw [List.length_take]; omega
          clear g0 g1 hqq htk hsa hsb hij2 hbd
          go_wp2
          have hae : arr 100 (fun s => 0 + cov (X.take j) s) = arr 100 (fun s => 0 + cov (X.take j) s + if sa ≤ s ∧ s < sa then 1 else 0) := arr_congr fun i _ => by rw [if_neg (by omega)]; omega
          rw [hae] at har
          clear hae D1 F1
          go_loopw [24] (fun s wi => ∃ t : Nat, sa ≤ t ∧ t ≤ sb ∧ s = .int .i64 (t : Int) ∧ Below w7.heap.size w7 wi ∧ ArrIn wi w7.heap.size 50 (arr 100 (fun s => 0 + cov (X.take j) s + if sa ≤ s ∧ s < t then 1 else 0))) (fun s _ => sb - (intOf s).toNat)
          case atStart => exact ⟨sa, by omega, by omega, rfl, hbo, har⟩
          case round =>
            obtain ⟨t, hta, htb, rfl, hbi, hai⟩ := hrel
            have D1 := (later_cell hbi hbL7).trans d1
            have F1 := (later_cell hbi hbL7).trans f1
            have hgl := hai.lt
            by_cases htl2 : t < sb
            · have ht100 : t < 100 := by omega
              have hcl := hai.at t ht100
              have hfz := hai.frozen t
              have hst := hai.set t (0 + cov (X.take j) t + (if sa ≤ t ∧ t < t then 1 else 0) + 1)
              rw [arr_set] at hst
              obtain ⟨z, hz⟩ : ∃ z, z = 0 + cov (X.take j) t + (if sa ≤ t ∧ t < t then 1 else 0) := ⟨_, rfl⟩
              have hzb : 0 ≤ z ∧ z ≤ 300 := by
                have h1 := HBD.out t
                have h2 := cov_bd (X.take j) t
                rw [hz]; split <;> omega
              rw [← hz] at hcl hst
              have hz' := hz
              rw [if_neg (by omega)] at hz'
              have HZ := Lib.hid hz'
              have HST := Lib.hid hst
              have hbs := bset hbi (p := ⟨w7.heap.size, t, none⟩) (Nat.le_refl _) (.int .i64 (z + 1))
              have hnx : arr 100 (fun s => if s = t then z + 1 else 0 + cov (X.take j) s + if sa ≤ s ∧ s < t then 1 else 0) = arr 100 (fun s => 0 + cov (X.take j) s + if sa ≤ s ∧ s < t + 1 then 1 else 0) := arr_congr fun i _ => by
                by_cases hi : i = t
                · subst hi; rw [if_pos rfl, if_pos (by omega), hz']; omega
                · rw [if_neg hi]; congr 1
                  by_cases h9 : sa ≤ i ∧ i < t
                  · rw [if_pos h9, if_pos (by omega)]
                  · rw [if_neg h9, if_neg (by omega)]
              have HNX := Lib.hid hnx
              clear hst hz hz' D1 hnx
              go_wp2
              go_roundw
              case rel => exact ⟨t + 1, by omega, by omega, by go_num, hbs, by rw [← HNX.out]; exact HST.out⟩
              case measure => simp [intOf]; omega
            · obtain rfl : t = sb := by omega
              have hnx : arr 100 (fun s => 0 + cov (X.take j) s + if sa ≤ s ∧ s < t then 1 else 0) = arr 100 (fun s => 0 + cov (X.take (j + 1)) s) := arr_congr fun i _ => by
                rw [HTK.out, cov_app, cov_one, HSA.out, HSB.out]
                by_cases h9 : sa ≤ i ∧ i < t
                · rw [if_pos h9, if_pos (by omega)]; omega
                · rw [if_neg h9, if_neg (by omega)]; omega
              rw [hnx] at hai
              clear hnx
              go_wp2
              go_roundw
              case rel => exact ⟨j + 1, i2 + 2, by omega, by omega, by have := hij.out; show _ = _; omega, by go_num, hbi, hai⟩
              case measure => simp [intOf]; omega
        · obtain rfl : j = mx := by omega
          have htk : X.take j = X := List.take_of_length_le (by rw [HMX.out]; omega)
          rw [htk] at har
          clear htk
          have hz1 : arr 100 (fun s => 0 + cov X s) = arr 100 (fun s => cov X s + cov (Z.take 0) s) := arr_congr fun i _ => by simp [cov]
          rw [hz1] at har
          have HBO := hbo
          have hge : 2 * j ≤ i2 := by omega
          clear hz1 hij2 hij
          go_wp2
          go_loopw [25] (fun i wr => ∃ (j i2 : Nat), j ≤ mz ∧ i2 ≤ 2 * mz ∧ Hid (i2 = 2 * j) ∧ i = .int .i64 (i2 : Int) ∧ Below w7.heap.size w7 wr ∧ ArrIn wr w7.heap.size 50 (arr 100 (fun s => cov X s + cov (Z.take j) s))) (fun i _ => 2 * mz - (intOf i).toNat)
          case atStart => exact ⟨0, 0, by omega, by omega, rfl, rfl, HBO, har⟩
          case round =>
            obtain ⟨wo, rfl⟩ : ∃ wo : World, wo = wr := ⟨_, rfl⟩
            obtain ⟨j, i2, hj, hi2, hij, rfl, hbo, har⟩ := hrel
            have hij2 := hij.out
            by_cases hjl : j < mz
            · have hjk : j < Z.length := by rw [HMZ.out]; exact hjl
              have hk0 : 2 * j < (Z.flatMap sgI).length := by rw [HLZ.out]; omega
              have hk1 : 2 * j + 1 < (Z.flatMap sgI).length := by rw [HLZ.out]; omega
              obtain ⟨g0, g1⟩ := sgI_get Z j hjk hk0 hk1
              obtain ⟨bL, oL, rfl, hbL7, -, d1, -, -, -⟩ := hz7.sg (2 * j) (by omega) hk0
              obtain ⟨bM, oM, eM, -, -, f1, -, -, -⟩ := hz7.sg (2 * j + 1) (by omega) hk1
              injection eM with eM; injection eM with e1 e2; subst e1; subst e2
              rw [g0] at d1
              rw [g1] at f1
              simp only at d1 f1
              obtain ⟨h0, h1, h2⟩ := IZ.out _ (List.getElem_mem hjk)
              have htk : Z.take (j + 1) = Z.take j ++ [Z[j]] := List.take_succ_eq_append_getElem hjk
              obtain ⟨qq, hqq⟩ : ∃ qq, qq = Z[j] := ⟨_, rfl⟩
              rw [← hqq] at d1 f1 h0 h1 h2 htk
              have HTK := Lib.hid htk
              obtain ⟨sa, hsa⟩ : ∃ sa : Nat, qq.1 = sa := ⟨qq.1.toNat, by omega⟩
              obtain ⟨sb, hsb⟩ : ∃ sb : Nat, qq.2 = sb := ⟨qq.2.toNat, by omega⟩
              rw [hsa] at d1 h0 h1
              rw [hsb] at f1 h1 h2
              rw [← hij2] at d1 f1
              have HSA := Lib.hid hsa
              have HSB := Lib.hid hsb
              have hi3 : i2 + 1 < 2 * mz := by omega
              have D1 := (later_cell hbo hbL7).trans d1
              have F1 := (later_cell hbo hbL7).trans f1
              have hbd : ∀ s : Int, 0 ≤ (cov X s : Int) ∧ (cov X s : Int) ≤ 100 := cov_ok HMX.out lx
              have HBD := Lib.hid hbd
              have htl : ((Z.take j).length : Int) ≤ 100 := by rw [List.length_take]; omega
              clear g0 g1 hqq htk hsa hsb hij2 hbd
              go_wp2
              have hae : arr 100 (fun s => cov X s + cov (Z.take j) s) = arr 100 (fun s => cov X s + cov (Z.take j) s + if sa ≤ s ∧ s < sa then 1 else 0) := arr_congr fun i _ => by rw [if_neg (by omega)]; omega
              rw [hae] at har
              clear hae D1 F1
              go_loopw [26] (fun s wi => ∃ t : Nat, sa ≤ t ∧ t ≤ sb ∧ s = .int .i64 (t : Int) ∧ Below w7.heap.size w7 wi ∧ ArrIn wi w7.heap.size 50 (arr 100 (fun s => cov X s + cov (Z.take j) s + if sa ≤ s ∧ s < t then 1 else 0))) (fun s _ => sb - (intOf s).toNat)
              case atStart => exact ⟨sa, by omega, by omega, rfl, hbo, har⟩
              case round =>
                obtain ⟨t, hta, htb, rfl, hbi, hai⟩ := hrel
                have D1 := (later_cell hbi hbL7).trans d1
                have F1 := (later_cell hbi hbL7).trans f1
                have hgl := hai.lt
                by_cases htl2 : t < sb
                · have ht100 : t < 100 := by omega
                  have hcl := hai.at t ht100
                  have hfz := hai.frozen t
                  have hst := hai.set t (cov X t + cov (Z.take j) t + (if sa ≤ t ∧ t < t then 1 else 0) + 1)
                  rw [arr_set] at hst
                  obtain ⟨z, hz⟩ : ∃ z, z = cov X t + cov (Z.take j) t + (if sa ≤ t ∧ t < t then 1 else 0) := ⟨_, rfl⟩
                  have hzb : 0 ≤ z ∧ z ≤ 300 := by
                    have h1 := HBD.out t
                    have h2 := cov_bd (Z.take j) t
                    rw [hz]; split <;> omega
                  rw [← hz] at hcl hst
                  have hz' := hz
                  rw [if_neg (by omega)] at hz'
                  have HZ := Lib.hid hz'
                  have HST := Lib.hid hst
                  have hbs := bset hbi (p := ⟨w7.heap.size, t, none⟩) (Nat.le_refl _) (.int .i64 (z + 1))
                  have hnx : arr 100 (fun s => if s = t then z + 1 else cov X s + cov (Z.take j) s + if sa ≤ s ∧ s < t then 1 else 0) = arr 100 (fun s => cov X s + cov (Z.take j) s + if sa ≤ s ∧ s < t + 1 then 1 else 0) := arr_congr fun i _ => by
                    by_cases hi : i = t
                    · subst hi; rw [if_pos rfl, if_pos (by omega), hz']; omega
                    · rw [if_neg hi]; congr 1
                      by_cases h9 : sa ≤ i ∧ i < t
                      · rw [if_pos h9, if_pos (by omega)]
                      · rw [if_neg h9, if_neg (by omega)]
                  have HNX := Lib.hid hnx
                  clear hst hz hz' D1 hnx
                  go_wp2
                  go_roundw
                  case rel => exact ⟨t + 1, by omega, by omega, by go_num, hbs, by rw [← HNX.out]; exact HST.out⟩
                  case measure => simp [intOf]; omega
                · obtain rfl : t = sb := by omega
                  have hnx : arr 100 (fun s => cov X s + cov (Z.take j) s + if sa ≤ s ∧ s < t then 1 else 0) = arr 100 (fun s => cov X s + cov (Z.take (j + 1)) s) := arr_congr fun i _ => by
                    rw [HTK.out, cov_app, cov_one, HSA.out, HSB.out]
                    by_cases h9 : sa ≤ i ∧ i < t
                    · rw [if_pos h9, if_pos (by omega)]; omega
                    · rw [if_neg h9, if_neg (by omega)]; omega
                  rw [hnx] at hai
                  clear hnx
                  go_wp2
                  go_roundw
                  case rel => exact ⟨j + 1, i2 + 2, by omega, by omega, by have := hij.out; show _ = _; omega, by go_num, hbi, hai⟩
                  case measure => simp [intOf]; omega
            · obtain rfl : j = mz := by omega
              have htk : Z.take j = Z := List.take_of_length_le (by rw [HMZ.out]; omega)
              rw [htk] at har
              clear htk
              have hge2 : 2 * j ≤ i2 := by omega
              clear hij2 hij
              go_wp2
              go_loop [27] (fun s => ∃ t : Nat, t ≤ n ∧ s = .int .i64 (t : Int)) (fun s => n - (intOf s).toNat)
              case atStart => exact ⟨0, by omega, rfl⟩
              case round =>
                obtain ⟨t, htn, rfl⟩ := hrel
                by_cases htl : t < n
                · have hcl := har.at t (by omega)
                  rw [HB.out t (by omega)] at hcl
                  go_wp2
                  go_round
                  case rel => exact ⟨t + 1, by omega, by go_num⟩
                  case measure => simp [intOf]; omega
                · obtain rfl : t = n := by omega
                  have hxo := hx7.below hbo
                  have Bo := btr B7 hbo
                  have hmy2 : ((2 * (my : Int)) % 2 == 0) = true := by simp
                  have hmy3 : (2 * my % 2 == 0) = true := by simp
                  go_wp2_with fail
                  refine (level_any _ _).mono ?_; rintro e wa ⟨Aa, ca, rfl, hsa, hba⟩
                  go_wp2_with fail
                  refine (Cut_is _ _ _ _ _ _ (levelL t) [p, q] (f + 3 * (p + q)) (X.flatMap sgI) 0 _ _ (hsa.below (bal (Below.refl _ _) _)) HLM.out (level_nobow _) (sl_new (ints [p, q]) (by simp) rfl) HRP.out (by omega) CW.out HLX.out).mono ?_
                  rintro e wb ⟨Ab, cb, rfl, hownb, hbb⟩
                  have Bab := btr (bal hba _) hbb
                  have hxb := hxo.below Bab
                  have hwb := own_sl hownb
                  have Bb := btr Bo Bab
                  clear hba hbb hownb hsa Bab hxo
                  go_wp2_with fail
                  refine (sameSg_any _ _ _ _ _ _ (X.flatMap sgI) _ (by omega) hwb hxb).mono ?_; rintro e wc ⟨rfl, qc, rfl⟩
                  go_wp2
                  go_ret
                  exact ⟨rfl, bdrewN Bb _⟩
end Go.Proofs.Ytacolepcpbhceaa
