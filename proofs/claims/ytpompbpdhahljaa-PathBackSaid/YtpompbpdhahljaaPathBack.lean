/- The walk of PathBack: it returns true. -/
import Derived.Test.YtpompbpdhahljaaKnown25
import Derived.Test.YtpompbpdhahljaaMade
import Derived.Test.YtpompbpdhahljaaBox2
import Derived.Test.YtpompbpdhahljaaBoxQ
namespace Go.Proofs.Ytpompbpdhahljaa
open Go.RowKit

theorem turn_get (c : Ct) (j : Nat) (h : j < c.es.length) (h' : c.es.length - 1 - j < (turnC c).es.length) : (turnC c).es[c.es.length - 1 - j] = flip c.es[j] := by
  simp only [turnC, List.getElem_reverse, List.getElem_map, List.length_map]
  congr 2; omega
theorem turn_es_len (c : Ct) : (turnC c).es.length = c.es.length := by simp [turnC]

set_option maxRecDepth 100000 in
set_option maxHeartbeats 8000000 in
theorem PathBack_any (A : Option Addr) (n c : Nat) (w : World) (h : InA w A n) (hnc : n ≤ c) (hcm : c ≤ 9223372036854775807) :
    Calls Try.prog 9 #[.slice A n c] w fun e w' => e = .returned (.bool true) ∧ Below w.heap.size w w' := by
  go_enter Try.func9, Try.ntmps9
  go_wp2_with fail
  refine (known25_any _).mono ?_; rintro e w1 ⟨rfl, hb1⟩
  go_wp2_with fail
  refine (Made_any A n c true w1 (h.below hb1) hnc hcm).mono ?_; rintro e w2 ⟨l, A2, c2, rfl, hown2, hmd2, hb2⟩
  have B2 : Below w.heap.size w w2 := btr hb1 hb2
  have hp2 := own_sl hown2
  have hl12 := hmd2.2.1
  have hmay := hmd2.may
  obtain ⟨m, hm⟩ : ∃ m, backL l = m := ⟨_, rfl⟩
  obtain ⟨⟨b, ok⟩, hbx⟩ : ∃ p, boxL l = p := ⟨_, rfl⟩
  have hbx2 : boxL m = (b, ok) := by rw [← hm, boxL_back hmay, hbx]
  have hlen : m.length = l.length := by rw [← hm, backL_len hmay]
  have hmm : mayB m = true := by rw [← hm]; exact backL_may hmay
  have hmb : backL m = l := by rw [← hm]; exact backL_back hmay
  obtain ⟨cs, hcs⟩ : ∃ cs, ctsL l = cs := ⟨_, rfl⟩
  have hds : ctsL m = cs.map turnC := by rw [← hm, ctsL_back hmay, hcs]
  have hcl : cs.length ≤ 300 := by rw [← hcs]; have := cts_len l; omega
  have hes : ∀ c ∈ cs, c.es.length ≤ 300 := fun c hc => by rw [← hcs] at hc; have := cts_es l c hc; omega
  obtain ⟨nc, hnc2⟩ : ∃ nc, cs.length = nc := ⟨_, rfl⟩
  have hnd : (cs.map turnC).length = nc := by rw [List.length_map]; exact hnc2
  rw [hnc2] at hcl
  have HM := Lib.hid hm
  have HBX := Lib.hid hbx
  have HBX2 := Lib.hid hbx2
  have HMM := Lib.hid hmm
  have HMB := Lib.hid hmb
  have HCS := Lib.hid hcs
  have HDS := Lib.hid hds
  have HNC := Lib.hid hnc2
  have HND := Lib.hid hnd
  have HES := Lib.hid hes
  have HLEN := Lib.hid hlen
  clear hb1 hb2 hown2 hmd2 hmay hm hbx hbx2 hlen hmm hmb hcs hds hnc2 hnd hes
  go_wp2_with fail
  refine (Back_any _ _ _ l m _ (by omega) hp2 HM.out).mono ?_; rintro e w3 ⟨A3, c3, rfl, hown3, hb3⟩
  have hp3 := hp2.below hb3
  have hq3 := own_sl hown3
  rw [HLEN.out] at hq3 ⊢
  have B3 := btr B2 hb3
  clear hb3 hown3 hp2 B2
  go_wp2_with fail
  refine (Box_any _ _ _ l _ _ (by omega) hp3 HBX.out).mono ?_; rintro e w4 ⟨rfl, hb4⟩
  have hp4 := hp3.below hb4
  have hq4 := hq3.below hb4
  have B4 := btr B3 hb4
  clear hb4 hp3 hq3 B3
  go_wp2_with fail
  refine (Box_any _ _ _ m _ _ (by omega) hq4 HBX2.out).mono ?_; rintro e w5 ⟨rfl, hb5⟩
  have hp5 := hp4.below hb5
  have hq5 := hq4.below hb5
  have B5 := btr B4 hb5
  clear hb5 hp4 hq4 B4
  go_wp2_with fail
  refine (Contours_any _ _ _ l cs _ (by omega) hp5 HCS.out).mono ?_; rintro e w6 ⟨A6, c6, rfl, hc6, hb6⟩
  rw [HNC.out] at hc6 ⊢
  have hp6 := hp5.below hb6
  have hq6 := hq5.below hb6
  have B6 := btr B5 hb6
  clear hb6 hp5 hq5 B5
  go_wp2_with fail
  refine (Contours_any _ _ _ m _ _ (by omega) hq6 HDS.out).mono ?_; rintro e w7 ⟨A7, c7, rfl, hd7, hb7⟩
  rw [HND.out] at hd7 ⊢
  have hc7 := hc6.below hb7
  have hp7 := hp6.below hb7
  have hq7 := hq6.below hb7
  have B7 := btr B6 hb7
  clear hb7 hp6 hq6 hc6 B6
  go_wp2_with fail
  refine (path_May_any _ _ _ m _ (by omega) hq7).mono ?_; rintro e w8 ⟨rfl, hb8⟩
  rw [HMM.out]
  have hc8 := hc7.below hb8
  have hd8 := hd7.below hb8
  have hp8 := hp7.below hb8
  have hq8 := hq7.below hb8
  have B8 := btr B7 hb8
  clear hb8 hp7 hq7 hc7 hd7 B7
  go_wp2_with fail
  go_loopw [17] (fun i wr => ∃ k : Nat, k ≤ nc ∧ i = .int .i64 (k : Int) ∧ Below w8.heap.size w8 wr) (fun i _ => nc - (intOf i).toNat)
  case atStart => exact ⟨0, by omega, rfl, Below.refl _ _⟩
  case round =>
    obtain ⟨wo, rfl⟩ : ∃ wo : World, wo = wr := ⟨_, rfl⟩
    obtain ⟨k, hk, rfl, hbo⟩ := hrel
    by_cases hlt : k < nc
    · have hka : k < cs.length := by rw [HNC.out]; exact hlt
      have hkb : k < (cs.map turnC).length := by rw [HND.out]; exact hlt
      obtain ⟨bA, oA, AA, cA, rfl, hbA, -, -, a2, a3, hsA⟩ := hc8.get k hlt hka
      obtain ⟨bB, oB, AB, cB, rfl, hbB, -, -, b2, b3, hsB⟩ := hd8.get k hlt hkb
      have hkt : (cs.map turnC)[k] = turnC cs[k] := List.getElem_map ..
      rw [hkt] at b2 b3 hsB
      have hu3 := HES.out cs[k] (List.getElem_mem hka)
      obtain ⟨ac, hac⟩ : ∃ ac, ac = cs[k] := ⟨_, rfl⟩
      rw [← hac] at a2 a3 b2 b3 hsA hsB hu3
      rw [turn_es_len] at b2 hsB
      have hsh : (turnC ac).shut = ac.shut := rfl
      rw [hsh] at b3
      obtain ⟨u, hu⟩ : ∃ u, ac.es.length = u := ⟨_, rfl⟩
      rw [hu] at a2 b2 hsA hsB hu3
      have HU := Lib.hid hu
      have a2' := (later_cell hbo hbA).trans a2
      have a3' := (later_cell hbo hbA).trans a3
      have b2' := (later_cell hbo hbB).trans b2
      have b3' := (later_cell hbo hbB).trans b3
      clear hka hkb hkt hac hsh hu
      go_wp2_with fail
      go_big_quiet (fail)
      go_wp2_with fail
      go_loopw [19] (fun i wi => ∃ j : Nat, j ≤ u ∧ i = .int .i64 (j : Int) ∧ Below w8.heap.size w8 wi) (fun i _ => u - (intOf i).toNat)
      case atStart => exact ⟨0, by omega, rfl, bdrewN hbo _⟩
      case round =>
        obtain ⟨j, hj, rfl, hbi⟩ := hrel
        by_cases hjl : j < u
        · have hja : j < ac.es.length := by rw [HU.out]; exact hjl
          have hjb : ac.es.length - 1 - j < (turnC ac).es.length := by rw [turn_es_len]; omega
          have htg := turn_get ac j hja hjb
          obtain ⟨bE, oE, rfl, hbE, e0, e1, e2, e3, e4, e5, e6⟩ := hsA.ed j hjl hja
          obtain ⟨bF, oF, rfl, hbF, f0, f1, f2, f3, f4, f5, f6⟩ := hsB.ed (ac.es.length - 1 - j) (by rw [HU.out]; omega) hjb
          rw [htg] at f0 f1 f2 f3 f4 f5 f6
          obtain ⟨ed, hed⟩ : ∃ ed, ed = ac.es[j] := ⟨_, rfl⟩
          rw [← hed] at e0 e1 e2 e3 e4 e5 e6 f0 f1 f2 f3 f4 f5 f6
          simp only [flip, HU.out] at f0 f1 f2 f3 f4 f5 f6
          have hu1 : 1 ≤ u := by omega
          have hu2 : j ≤ u - 1 := by omega
          have E0 := (later_cell hbi hbE).trans e0
          have E1 := (later_cell hbi hbE).trans e1
          have E2 := (later_cell hbi hbE).trans e2
          have E3 := (later_cell hbi hbE).trans e3
          have E4 := (later_cell hbi hbE).trans e4
          have E5 := (later_cell hbi hbE).trans e5
          have E6 := (later_cell hbi hbE).trans e6
          have F0 := (later_cell hbi hbF).trans f0
          have F1 := (later_cell hbi hbF).trans f1
          have F2 := (later_cell hbi hbF).trans f2
          have F3 := (later_cell hbi hbF).trans f3
          have F4 := (later_cell hbi hbF).trans f4
          have F5 := (later_cell hbi hbF).trans f5
          have F6 := (later_cell hbi hbF).trans f6
          have A2i := (later_cell hbi hbA).trans a2
          have B2i := (later_cell hbi hbB).trans b2
          have hsi := hbi.size
          have hA9 : bA < wr.heap.size := by omega
          have hB9 : bB < wr.heap.size := by omega
          have hE9 : bE < wr.heap.size := by omega
          have hF9 : bF < wr.heap.size := by omega
          clear htg hed e0 e1 e2 e3 e4 e5 e6 f0 f1 f2 f3 f4 f5 f6 hja hjb a2' a3' b2' b3'
          go_wp2_with fail
          go_region
          all_goals
            clear E0 E1 E2 E3 E4 E5 E6 F0 F1 F2 F3 F4 F5 F6
            go_wp2_with fail
            go_roundw
            case rel => exact ⟨j + 1, by omega, by go_num, bdrew (bal (bal hbi _) _)⟩
            case measure => simp [intOf]; omega
        · obtain rfl : j = u := by omega
          go_wp2_with fail
          go_roundw
          case rel => exact ⟨k + 1, by omega, by go_num, hbi⟩
          case measure => simp [intOf]; omega
    · obtain rfl : k = nc := by omega
      have hpo := hp8.below hbo
      have hqo := hq8.below hbo
      have Bo := btr B8 hbo
      go_wp2_with fail
      refine (Back_any _ _ _ m l _ (by omega) hqo HMB.out).mono ?_; rintro e w9 ⟨A9, c9, rfl, hown9, hb9⟩
      have hp9 := hpo.below hb9
      have hr9 := own_sl hown9
      have B9 := btr Bo hb9
      clear hb9 hown9 hpo hqo Bo
      go_wp2_with fail
      refine (sameSg_any _ _ _ _ _ _ l _ (by omega) hr9 hp9).mono ?_; rintro e w10 ⟨rfl, q10, rfl⟩
      go_wp2
      go_ret
      exact ⟨by simp, bdrewN B9 _⟩
end Go.Proofs.Ytpompbpdhahljaa
