/- The walk of DashLevel: it returns true. -/
import Derived.Test.YtacolepcpbhceaaDash7
import Derived.Test.YtacolepcpbhceaaArrB
import Derived.Test.YtacolepcpbhceaaLex
import Derived.Deep.DeepCutAuto
namespace Go.Proofs.Ytacolepcpbhceaa
open Go.RowKit

theorem zero121 : Try.zeroCells48 = (bools (arrB 121 (fun _ => false))).toArray := by kernel_rfl
theorem row_three : Row [3] := ⟨by simp, by simp, by simp⟩

set_option maxRecDepth 100000 in
set_option maxHeartbeats 4000000 in
theorem DashLevel_any (long : Int) (A : Option Addr) (n0 c0 : Nat) (from_ : Int) (w : World) (h : InA w A n0) (hnc : n0 ≤ c0) (hcm : c0 ≤ 9223372036854775807) :
    Calls Try.prog 5 #[.int .i64 long, .slice A n0 c0, .int .i64 from_] w fun e w' => e = .returned (.bool true) ∧ Below w.heap.size w w' := by
  go_enter Try.func5, Try.ntmps5
  go_wp2_with fail
  refine (known35_any _).mono ?_; rintro e w1 ⟨rfl, hb1⟩
  go_wp2_with fail
  refine (Lengths_any A n0 c0 w1 (h.below hb1) hnc hcm).mono ?_; rintro e w2 ⟨on0, A2, c2, rfl, hown2, hlo, hb2⟩
  have B2 := btr hb1 hb2
  have ho2 := own_sl hown2
  have hlo1 := hlo.1
  have HON0 := Lib.hid hlo1
  clear hb1 hb2 hown2 hlo hlo1
  go_upto_if 26 with (fail)
  go_cut [7] (fun s7 wx => ∃ (AR : Option Addr) (r cr : Nat) (on : List Int), s7 = .slice AR r cr ∧ Sl wx 1 AR r (ints on) ∧ Below w2.heap.size w2 wx ∧ Hid (Row on ∧ on.length ≤ 11))
  case first =>
    by_cases h0 : on0 = []
    · subst h0
      go_wp2
      go_meet
      exact ⟨_, 1, 1, [3], rfl, sl_new (ints [3]) rfl rfl, bal (Below.refl _ _) _, row_three, by simp⟩
    · have hl : 1 ≤ on0.length := List.length_pos_iff.2 h0
      have hb0 : ((on0.length : Int) == 0) = false := by simp; omega
      have hb1 : (on0.length == 0) = false := by simp; omega
      have hr := HON0.out.resolve_left h0
      have HR := Lib.hid hr
      clear h0 hr
      go_wp2
      go_meet
      exact ⟨A2, _, c2, on0, rfl, ho2, Below.refl _ _, HR.out⟩
  case rest =>
    obtain ⟨AR, r, cr, on, rfl, hon, hbc, hrow⟩ := hcut
    have B3 := btr B2 hbc
    have hrl := hon.intlen
    have hr11 : r ≤ 11 := by rw [← hrl]; exact hrow.out.2
    have hr1 : 1 ≤ r := by rw [← hrl]; exact hrow.out.1.len
    have HRL := Lib.hid hrl
    clear hrl hbc ho2 B2 HON0
    go_wp2_with fail
    refine (Place_any long 120 _ (by omega) (by omega)).mono ?_; rintro e w' ⟨rfl, rfl⟩
    have hn : 0 ≤ placeI long 120 ∧ placeI long 120 < 120 := by unfold placeI; omega
    generalize placeI long 120 = nn at *
    go_wp2_with fail
    refine (Place_any from_ 600 _ (by omega) (by omega)).mono ?_; rintro e w' ⟨rfl, rfl⟩
    have hf : 0 ≤ placeI from_ 600 ∧ placeI from_ 600 < 600 := by unfold placeI; omega
    generalize placeI from_ 600 = ff at *
    obtain ⟨n, hne⟩ : ∃ n : Nat, (n : Int) = 1 + nn := ⟨(1 + nn).toNat, by omega⟩
    obtain ⟨f, rfl⟩ : ∃ f : Nat, ff = (f : Int) := ⟨ff.toNat, by omega⟩
    have hn1 : 1 ≤ n := by omega
    have hn2 : n ≤ 120 := by omega
    have hf2 : f < 600 := by omega
    rw [← hne]
    have HLM := Lib.hid (level_may (n := (n : Int)) (by omega) (by omega))
    obtain ⟨X, hX⟩ : ∃ X, X = iv on f n := ⟨_, rfl⟩
    obtain ⟨⟨L, er⟩, hL⟩ : ∃ p, cutL on f (levelL n) = p := ⟨_, rfl⟩
    have hcl := cutL_level (n := (n : Int)) (by omega) (by omega) hrow.out.1.ne f
    rw [hL, lvl_iv, ← hX] at hcl
    obtain ⟨lL, hlL⟩ : ∃ x, L.length = x := ⟨_, rfl⟩
    have HX := Lib.hid hX
    have HL := Lib.hid hL
    have HLL := Lib.hid hlL
    have HCL := Lib.hid hcl
    have HON : Hid (OnOK on) := .inr hrow.out
    clear hne hn hf hX hL hcl hlL
    go_wp2_with fail
    refine (level_any _ _).mono ?_; rintro e w4 ⟨A4, c4, rfl, hs4, hb4⟩
    have ho4 := hon.below hb4
    go_wp2_with fail
    refine (Cut_is _ _ _ _ _ _ (levelL n) on f L er lL _ hs4 HLM.out (level_nobow _) ho4 HON.out (by omega) HL.out HLL.out).mono ?_
    rintro e w5 ⟨A5, c5, rfl, hown5, hb5⟩
    have B5 := btr B3 (btr hb4 hb5)
    have ho5 := ho4.below hb5
    have hx5 := own_sl hown5
    clear hb4 hb5 hown5 hs4 ho4 hon B3
    by_cases hov : 300 < (X.flatMap sgI).length
    · have he := HCL.out
      rw [if_pos hov] at he
      obtain ⟨e1, e2⟩ := Prod.mk.inj he
      subst e1; subst e2
      obtain rfl : 0 = lL := HLL.out
      clear hov he
      go_wp2
      go_ret
      exact ⟨rfl, B5⟩
    · have he := HCL.out
      rw [if_neg hov] at he
      obtain ⟨e1, e2⟩ := Prod.mk.inj he
      subst e1; subst e2
      obtain ⟨m, hm⟩ : ∃ m, X.length = m := ⟨_, rfl⟩
      have hlx : (X.flatMap sgI).length = 2 * m := by rw [sgI_len, hm]
      have hm150 : m ≤ 150 := by omega
      obtain rfl : 2 * m = lL := by rw [← hlx]; exact HLL.out
      have HM := Lib.hid hm
      have HLX := Lib.hid hlx
      have hsrt : X.Pairwise (fun q r => q.2 ≤ r.1) := by rw [HX.out]; exact ivTo_sorted hrow.out.1 (by omega) _
      have hin : ∀ q ∈ X, 0 ≤ q.1 ∧ q.1 ≤ q.2 ∧ q.2 ≤ n := by rw [HX.out]; exact iv_in hrow.out.1 (by omega)
      have HSRT := Lib.hid hsrt
      have HIN := Lib.hid hin
      clear hov he hm hlx hsrt hin HCL HL
      go_wp2
      have hzz := BarIn.new w5 Try.zeroCells48 48 _ _ rfl zero121
      have B58 := bal (Below.refl w5.heap.size w5) (.cells Try.zeroCells48 48)
      generalize w5.alloc (.cells Try.zeroCells48 48) = w6 at *
      have hz0 : arrB 121 (fun _ => false) = arrB 121 (fun s => decide (0 < cov (X.take 0) s)) := arrB_congr fun i _ => by simp [cov]
      rw [hz0] at hzz
      clear hz0
      go_loopw [13, 14] (fun dt i wr => ∃ (j i2 : Nat), j ≤ m ∧ i2 ≤ 2 * m ∧ Hid (i2 = 2 * j) ∧ dt = .int .i64 (dotc (X.take j)) ∧ i = .int .i64 (i2 : Int) ∧ Below w5.heap.size w5 wr ∧ BarIn wr w5.heap.size 48 (arrB 121 (fun s => decide (0 < cov (X.take j) s)))) (fun _ i _ => 2 * m - (intOf i).toNat)
      case atStart => exact ⟨0, 0, by omega, by omega, rfl, rfl, rfl, B58, hzz⟩
      case round =>
        obtain ⟨wo, rfl⟩ : ∃ wo : World, wo = wr := ⟨_, rfl⟩
        obtain ⟨j, i2, hj, hi2, hij, rfl, rfl, hbo, har⟩ := hrel
        have hij2 := hij.out
        by_cases hjl : j < m
        · have hjk : j < X.length := by rw [HM.out]; exact hjl
          have hk0 : 2 * j < (X.flatMap sgI).length := by rw [HLX.out]; omega
          have hk1 : 2 * j + 1 < (X.flatMap sgI).length := by rw [HLX.out]; omega
          obtain ⟨g0, g1⟩ := sgI_get X j hjk hk0 hk1
          obtain ⟨bL, oL, rfl, hbL7, a0, a1, a2, -, -⟩ := hx5.sg (2 * j) (by omega) hk0
          obtain ⟨bM, oM, eM, -, b0, b1, b2, -, -⟩ := hx5.sg (2 * j + 1) (by omega) hk1
          injection eM with eM; injection eM with e1 e2; subst e1; subst e2
          rw [g0] at a0 a1 a2
          rw [g1] at b0 b1 b2
          simp only at a0 a1 a2 b0 b1 b2
          obtain ⟨h0, h1, h2⟩ := HIN.out _ (List.getElem_mem hjk)
          have htk : X.take (j + 1) = X.take j ++ [X[j]] := List.take_succ_eq_append_getElem hjk
          have hst := sorted_take HSRT.out j hjk
          have hdb := dotc_bd (X.take j)
          have hdl : ((X.take j).length : Int) ≤ 150 := by rw [List.length_take]; omega
          obtain ⟨qq, hqq⟩ : ∃ qq, qq = X[j] := ⟨_, rfl⟩
          rw [← hqq] at a1 b1 h0 h1 h2 htk hst
          obtain ⟨sa, hsa⟩ : ∃ sa : Nat, qq.1 = sa := ⟨qq.1.toNat, by omega⟩
          obtain ⟨sb, hsb⟩ : ∃ sb : Nat, qq.2 = sb := ⟨qq.2.toNat, by omega⟩
          have hdt : dotc (X.take (j + 1)) = dotc (X.take j) + if (sa : Int) = sb then 1 else 0 := by rw [htk, dotc_app, dotc_one, hsa, hsb]
          rw [hsa] at a1 h0 h1 hst
          rw [hsb] at b1 h1 h2
          have HTK := Lib.hid htk
          have HST := Lib.hid hst
          have HDT := Lib.hid hdt
          obtain ⟨dj, hdj⟩ : ∃ dj, dj = dotc (X.take j) := ⟨_, rfl⟩
          rw [← hdj] at hdb ⊢
          have HDJ := Lib.hid hdj
          rw [← hij2] at a0 a1 a2 b0 b1 b2
          have hd1 : decide (sb < sa) = false := by simp; omega
          have hd2 : decide (n < sb) = false := by simp; omega
          have hd3 : decide ((sb : Int) < (sa : Int)) = false := by simp; omega
          have hd4 : decide ((n : Int) < (sb : Int)) = false := by simp; omega
          have hd5 : decide ((sa : Int) < 0) = false := by simp
          have HSA := Lib.hid hsa
          have HSB := Lib.hid hsb
          have c0' := (later_cell hbo hbL7).trans a0
          have c1' := (later_cell hbo hbL7).trans a1
          have c2' := (later_cell hbo hbL7).trans a2
          have e0' := (later_cell hbo hbL7).trans b0
          have e1' := (later_cell hbo hbL7).trans b1
          have e2' := (later_cell hbo hbL7).trans b2
          have hi3 : i2 + 1 < 2 * m := by omega
          have HIJ := Lib.hid hij2
          clear g0 g1 hqq htk hst hdt hdj hij2 hsa hsb a0 a2 b0 b2
          go_wp2
          try simp only [List.append]
          refine wp_region_quiet_lit (by kernel_rfl) (lexB_of (base := 57) (by kernel_rfl)) ?_
          repeat go_big_quiet_step (fail)
          refine wpQuiet_nil ?_
          intro _ hw'
          obtain ⟨nq, hw''⟩ := hw'
          subst hw''
          go_wp2
          have hbo2 := bdrewN hbo nq
          have har2 := har.below (bdrewN (Below.refl _ _) nq)
          have hae : arrB 121 (fun s => decide (0 < cov (X.take j) s)) = arrB 121 (fun s => decide (0 < cov (X.take j) s) || (decide (sa ≤ s) && decide (s < sa))) := arrB_congr fun i _ => by
            have : (decide (sa ≤ i) && decide (i < sa)) = false := by simp <;> omega
            rw [this, Bool.or_false]
          rw [hae] at har2
          clear hae har c0' c1' c2' e0' e1' e2' hd1 hd2 hd3 hd4 hd5
          go_loopw [15] (fun s wi => ∃ t : Nat, sa ≤ t ∧ t ≤ sb ∧ s = .int .i64 (t : Int) ∧ Below w5.heap.size w5 wi ∧ BarIn wi w5.heap.size 48 (arrB 121 (fun s => decide (0 < cov (X.take j) s) || (decide (sa ≤ s) && decide (s < t))))) (fun s _ => sb - (intOf s).toNat)
          case atStart => exact ⟨sa, by omega, by omega, rfl, hbo2, har2⟩
          case round =>
            obtain ⟨t, hta, htb, rfl, hbi, hai⟩ := hrel
            have D1 := (later_cell hbi hbL7).trans a1
            have F1 := (later_cell hbi hbL7).trans b1
            have hgl := hai.lt
            by_cases htl2 : t < sb
            · have ht121 : t < 121 := by omega
              have hcl := hai.at t ht121
              have hcz : cov (X.take j) t = 0 := cov_zero fun q hq => by have := HST.out q hq; omega
              have hfl : (decide (0 < cov (X.take j) t) || (decide (sa ≤ t) && decide (t < t))) = false := by rw [hcz]; simp
              rw [hfl] at hcl
              have hfz := hai.frozen t
              have hst := hai.set t true
              rw [arrB_set] at hst
              have hnx : arrB 121 (fun s => if s = t then true else decide (0 < cov (X.take j) s) || (decide (sa ≤ s) && decide (s < t))) = arrB 121 (fun s => decide (0 < cov (X.take j) s) || (decide (sa ≤ s) && decide (s < t + 1))) := arrB_congr fun i _ => by
                by_cases hi : i = t
                · subst hi
                  have : (decide (sa ≤ i) && decide (i < i + 1)) = true := by simp <;> omega
                  rw [if_pos rfl, this, Bool.or_true]
                · have : decide (i < t + 1) = decide (i < t) := by rw [Bool.eq_iff_iff]; simp only [decide_eq_true_eq]; omega
                  rw [if_neg hi, this]
              rw [hnx] at hst
              have HST2 := Lib.hid hst
              have hbs := bset hbi (p := ⟨w5.heap.size, t, none⟩) (Nat.le_refl _) (.bool true)
              clear hst hnx hcz hfl
              go_wp2
              go_roundw
              case rel => exact ⟨t + 1, by omega, by omega, by go_num, hbs, HST2.out⟩
              case measure => simp [intOf]; omega
            · obtain rfl : t = sb := by omega
              have hnx : arrB 121 (fun s => decide (0 < cov (X.take j) s) || (decide (sa ≤ s) && decide (s < t))) = arrB 121 (fun s => decide (0 < cov (X.take (j + 1)) s)) := arrB_congr fun i _ => by
                rw [HTK.out, cov_app, cov_one, HSA.out, HSB.out]
                have hb := (cov_bd (X.take j) i).1
                rw [Bool.eq_iff_iff]
                simp only [Bool.or_eq_true, Bool.and_eq_true, decide_eq_true_eq]
                by_cases h9 : sa ≤ i ∧ i < t
                · rw [if_pos (by omega)]; omega
                · rw [if_neg (by omega)]; omega
              rw [hnx] at hai
              clear hnx
              by_cases hpt : sa = t
              · have hp1 : ((sa : Int) == (t : Int)) = true := by simp [hpt]
                have hp2 : (sa == t) = true := by simp [hpt]
                have hdn : dotc (X.take (j + 1)) = dj + 1 := by rw [HDT.out, ← HDJ.out, if_pos (by rw [hpt])]
                have HDN := Lib.hid hdn
                clear hpt hdn
                go_wp2
                go_quiet (fail)
                go_wp2
                go_roundw
                case rel => exact ⟨j + 1, i2 + 2, by omega, by omega, by have := HIJ.out; show _ = _; omega, by rw [HDN.out], by go_num, bdrewN hbi _, hai.below (bdrewN (Below.refl _ _) _)⟩
                case measure => simp [intOf]; omega
              · have hp1 : ((sa : Int) == (t : Int)) = false := by simp; omega
                have hp2 : (sa == t) = false := by simp; omega
                have hdn : dotc (X.take (j + 1)) = dj := by rw [HDT.out, ← HDJ.out, if_neg (by omega)]; omega
                have HDN := Lib.hid hdn
                clear hpt hdn
                go_wp2
                go_quiet (fail)
                go_wp2
                go_roundw
                case rel => exact ⟨j + 1, i2 + 2, by omega, by omega, by have := HIJ.out; show _ = _; omega, by rw [HDN.out], by go_num, bdrewN hbi _, hai.below (bdrewN (Below.refl _ _) _)⟩
                case measure => simp [intOf]; omega
        · obtain rfl : j = m := by omega
          have htk : X.take j = X := List.take_of_length_le (by rw [HM.out]; omega)
          rw [htk] at har ⊢
          have hge : 2 * j ≤ i2 := by omega
          have hdb := dotc_bd X
          have hXl := HM.out
          obtain ⟨dj, hdj⟩ : ∃ dj, dj = dotc X := ⟨_, rfl⟩
          rw [← hdj] at hdb ⊢
          have hdb2 : 0 ≤ dj ∧ dj ≤ 150 := by omega
          have HDJ := Lib.hid hdj
          have hoo := ho5.below hbo
          have hgl := har.lt
          have Bo := btr B5 hbo
          have hpr0 : pre on 0 = 0 := rfl
          clear htk hij2 hij hdj hXl hdb
          go_wp2
          go_loop [16, 17, 18, 19] (fun a i p s => ∃ (k t : Nat) (pk ps : Int), t ≤ n + f ∧ a = .int .i64 pk ∧ i = .int .i64 (k : Int) ∧ p = .int .i64 ps ∧ s = .int .i64 (t : Int) ∧ k ≤ 20000 ∧ 0 ≤ pk ∧ pk ≤ t ∧ 0 ≤ ps ∧ ps ≤ k ∧ Hid (pk = pre on k ∧ ps = ptsTo on f n k ∧ (0 < t → (t : Int) ≤ pre on (k + 1)))) (fun _ _ _ s => n + f - (intOf s).toNat)
          case atStart => exact ⟨0, 0, 0, 0, by omega, rfl, rfl, rfl, rfl, by omega, by omega, by omega, by omega, by omega, hpr0.symm, rfl, fun h => absurd h (by omega)⟩
          case round =>
            obtain ⟨k, t, pk, ps, htn, rfl, rfl, rfl, rfl, hk2, hpk0, hpk1, hps0, hps1, hkk⟩ := hrel
            by_cases htl : t < n + f
            · have hrow1 := hrow.out.1
              have HRW := Lib.hid hrow1
              have hstart : Hid (pk = pre on k ∧ ps = ptsTo on f n k) := ⟨hkk.out.1, hkk.out.2.1⟩
              clear hrow1 hkk
              go_wp2
              go_loop [16, 17, 18] (fun a i p => ∃ (k : Nat) (pk ps : Int), a = .int .i64 pk ∧ i = .int .i64 (k : Int) ∧ p = .int .i64 ps ∧ k ≤ 20000 ∧ 0 ≤ pk ∧ pk ≤ t ∧ 0 ≤ ps ∧ ps ≤ k ∧ Hid (pk = pre on k ∧ ps = ptsTo on f n k)) (fun _ i _ => 20000 - (intOf i).toNat)
              case atStart => exact ⟨k, pk, ps, rfl, rfl, rfl, hk2, hpk0, hpk1, hps0, hps1, hstart⟩
              case round =>
                clear hk2 hpk0 hpk1 hps0 hps1 hstart
                obtain ⟨k, pk, ps, rfl, rfl, rfl, hk2, hpk0, hpk1, hps0, hps1, hkk⟩ := hrel
                have hqk : k % r < r := Nat.mod_lt _ (by omega)
                obtain ⟨bR, oR, rfl, hbR, z0⟩ := hoo.intAt (k % r) hqk (by rw [HRL.out]; exact hqk)
                have hg := HRW.out.get k
                rw [HRL.out] at hg
                have hzz2 : on[k % r]'(by rw [HRL.out]; exact hqk) = on.getD (k % r) 0 := by rw [List.getD_eq_getElem?_getD, List.getElem?_eq_getElem (by rw [HRL.out]; exact hqk)]; rfl
                rw [hzz2] at z0
                have hpq : pre on (k + 1) = pk + on.getD (k % r) 0 := by rw [hkk.out.1]; show pre on k + on.getD (k % on.length) 0 = _; rw [HRL.out]
                have hpts : ptsTo on f n (k + 1) = ps + if k % 2 = 0 ∧ on.getD (k % r) 0 = 0 ∧ (f : Int) ≤ pk ∧ pk < n + f then 1 else 0 := by
                  rw [hkk.out.2, hkk.out.1]; show ptsTo on f n k + (if k % 2 = 0 ∧ on.getD (k % on.length) 0 = 0 ∧ (f : Int) ≤ pre on k ∧ pre on k < n + f then 1 else 0) = _; rw [HRL.out]
                obtain ⟨z, hz⟩ : ∃ z, z = on.getD (k % r) 0 := ⟨_, rfl⟩
                rw [← hz] at z0 hg hpq hpts
                obtain ⟨hg1, hg2⟩ := hg
                have hqr : ((k : Int)).tmod (r : Int) = ((k % r : Nat) : Int) := by rw [Int.tmod_eq_emod_of_nonneg (by omega)]; rfl
                have hr00 : ((r : Int) == 0) = false := by simp; omega
                have HPQ := Lib.hid hpq
                have HPT := Lib.hid hpts
                clear hzz2 hz
                by_cases hle : pk + z ≤ t
                · have hk3 : k + 1 ≤ 20000 := by
                    have h1 := lt_bnd HRW.out (f := 0) (n := (t : Int) + 1) (k := k + 1) (by rw [hpq]; omega)
                    unfold bnd at h1
                    rw [HRL.out] at h1
                    have h2 : (((t : Int) + 1 + 0).toNat + 1) * r ≤ 800 * 11 := Nat.mul_le_mul (by omega) hr11
                    omega
                  have hparn : (k : Int) % 2 = ((k % 2 : Nat) : Int) := rfl
                  clear hpq hpts hparn
                  go_wp2
                  all_goals
                    go_round
                    case rel =>
                      have hb1 := HPQ.out
                      have hb2 := ptsTo_bd on f n (k + 1)
                      refine ⟨k + 1, pre on (k + 1), ptsTo on f n (k + 1), ?_, by go_num, ?_, hk3, by omega, by omega, hb2.1, hb2.2, rfl, rfl⟩
                      · rw [hb1] <;> first | rfl | (congr 1; omega)
                      · rw [HPT.out]; first | rw [if_pos (by omega)] | (rw [if_neg (by omega), Int.add_zero])
                    case measure => simp [intOf]; omega
                · have hpq2 : (t : Int) + 1 ≤ pre on (k + 1) := by rw [hpq]; omega
                  have HP2 := Lib.hid hpq2
                  clear hpq hpts hpq2
                  by_cases hsf : t < f
                  · go_wp2
                    go_round
                    case rel => exact ⟨k, t + 1, pk, ps, by omega, rfl, rfl, rfl, by go_num, hk2, hpk0, by omega, hps0, hps1, hkk.out.1, hkk.out.2, fun _ => by have := HP2.out; omega⟩
                    case measure => simp [intOf]; omega
                  · obtain ⟨d, rfl⟩ : ∃ d, t = f + d := ⟨t - f, by omega⟩
                    have hdn : d < n := by omega
                    have hcl := har.at d (by omega)
                    have hdr := drawn_is (f := (f : Int)) (n := (n : Int)) (s := (d : Int)) HRW.out (by omega) (by omega) (k := k) (by rw [← hkk.out.1]; omega) (by have := HP2.out; omega)
                    rw [← HX.out] at hdr
                    rw [hdr] at hcl
                    have hidx : (((f + d : Nat) : Int) - (f : Int)).toNat = d := by omega
                    have hix2 : (f : Int) + (d : Int) - (f : Int) = (d : Int) := by omega
                    clear hdr
                    by_cases hpar : k % 2 = 0
                    · have hp1 : ((k : Int) % 2 == 0) = true := by simp; omega
                      have hp2 : decide (k % 2 = 0) = true := by simp [hpar]
                      have hp3 : (k % 2 == 0) = true := by simp [hpar]
                      rw [hp2] at hcl
                      clear hpar
                      go_wp2
                      go_round
                      case rel => exact ⟨k, f + d + 1, pk, ps, by omega, rfl, rfl, rfl, by go_num, hk2, hpk0, by omega, hps0, hps1, hkk.out.1, hkk.out.2, fun _ => by have := HP2.out; omega⟩
                      case measure => simp [intOf]; omega
                    · have hp1 : ((k : Int) % 2 == 0) = false := by simp; omega
                      have hp2 : decide (k % 2 = 0) = false := by simp [hpar]
                      have hp3 : (k % 2 == 0) = false := by simp [hpar]
                      rw [hp2] at hcl
                      clear hpar
                      go_wp2
                      go_round
                      case rel => exact ⟨k, f + d + 1, pk, ps, by omega, rfl, rfl, rfl, by go_num, hk2, hpk0, by omega, hps0, hps1, hkk.out.1, hkk.out.2, fun _ => by have := HP2.out; omega⟩
                      case measure => simp [intOf]; omega
            · obtain rfl : t = n + f := by omega
              have hfin : ps = dj := by
                obtain ⟨h1, h2, h3⟩ := hkk.out
                rw [h2, HDJ.out, HX.out]
                exact (dot_all hrow.out.1 (by omega) (by have := h3 (by omega); omega)).symm
              have hpe : (ps == dj) = true := by simp [hfin]
              have hpe2 : (dj == ps) = true := by simp [hfin]
              have hev : ((2 * (j : Int)) % 2 == 0) = true := by simp
              clear hfin
              go_wp2
              go_ret
              exact ⟨rfl, Bo⟩
end Go.Proofs.Ytacolepcpbhceaa
