/- The reference's Cut. -/
import Derived.Test.YtdfkbbcoolgfiaaGreatMDr
import Derived.Test.YtdfkbbcoolgfiaaGreatDashR6P
import Derived.Test.YtdfkbbcoolgfiaaGreatRefCts
namespace Go.Proofs.YtdfkbbcoolgfiaaGreat
open Go.RowKit

theorem ref_MayDash_nil (c : Nat) (A : Option Addr) (w : World) : Calls Tryz.prog 78 #[.slice A 0 c] w fun e w' => e = .returned (.bool true) ∧ w = w' := by
  go_enter Tryz.func78, Tryz.ntmps78
  go_wp2
  go_loop [3, 4] (fun s i => s = .int .i64 0 ∧ i = .int .i64 0) (fun _ _ => 0)
  case atStart => exact ⟨rfl, rfl⟩
  case round =>
    obtain ⟨rfl, rfl⟩ := hrel
    go_wp2
    go_ret
    exact ⟨rfl, rfl⟩

set_option maxHeartbeats 1000000 in
theorem ref_Cut_nil (A A0 : Option Addr) (n c c0 : Nat) (l : List Sg) (f : Int) (w : World) (h : Sl w 5 A n (sgs l)) (hok : mayB l = true) (hb : ∀ s ∈ l, s.kind ≠ 3) (hf : 0 ≤ f ∧ f ≤ 2147483647) :
    Calls Tryz.prog 35 #[.slice A n c, .slice A0 0 c0, .int .i64 f] w (CutPost w (l, 0)) := by
  have hl := h.sglen
  have hn3 : n ≤ 300 := by rw [← hl]; exact (mayB_from hok).2
  have HB := Lib.hid hb
  have HOK := Lib.hid hok
  have HL := Lib.hid hl
  obtain ⟨hf0, hf1⟩ := hf
  clear hb hok hl
  go_enter Tryz.func35, Tryz.ntmps35
  go_wp2_with fail
  refine (ref_Straight_any A n c l w (by omega) h HOK.out HB.out).mono ?_; rintro e w1 ⟨rfl, hb1⟩
  go_wp2_with fail
  refine (ref_MayDash_nil _ _ _).mono ?_; rintro e w2 ⟨rfl, rfl⟩
  go_wp2_with (at_builtin; refine wpList_app rfl _ _ 24 rfl w1.heap.size sgT2 rfl (own_empty w1 _ _ _ _ (Nat.le_refl _) rfl) (sgs l) rfl ((h.below hb1).below (bal (Below.refl _ _) _)) (oneCell_sgs _) (by omega) (by simp) ?_; intro A5 c5 w5 hown5 hg5 hat5)
  go_ret2
  refine ⟨A5, c5, by rw [HL.out]; rfl, ?_, btr hb1 (grown_below (bal (Below.refl _ _) _) hg5 (own_empty w1 _ 5 _ _ (Nat.le_refl _) rfl))⟩
  simp only [HL.out]
  rw [Nat.zero_add, List.nil_append] at hown5
  exact own_mono hown5 hb1.size

theorem RWayIn.mid {lo n : Nat} {w wi : World} {Ap Aa : Option Addr} {ps : List Ed} (h : Mid lo w.heap.size w wi) (hs : RWayIn w Ap Aa n ps) (hb : ∀ a, Ap = some a ∨ Aa = some a → lo ≤ a.block) : RWayIn wi Ap Aa n ps :=
  ⟨hs.len, hs.few, hs.all, h.sl hs.p fun a e => hb a (.inl e), h.sl hs.a fun a e => hb a (.inr e)⟩
theorem drawn_is (Ap Aa : Option Addr) (n cp ca m : Nat) (ps : List Ed) (N a b a' b' : Int) (P : List Sg) (w : World) (h : RWayIn w Ap Aa n ps) (hj : Joined ps) (ha0 : 0 ≤ a') (ha1 : a' < sumL ps) (hb0 : a' ≤ b') (hb1 : b' ≤ sumL ps) (ha : a = a') (hb : b = b') (hP : P = partW ps a' b') (hm : P.length = m) :
    Calls Tryz.prog 81 #[.agg #[.slice Ap n cp, .slice Aa n ca, .int .i64 N], .int .i64 a, .int .i64 b] w
      fun e w' => ∃ (A : Option Addr) (c : Nat), e = .returned (.slice A m c) ∧ w'.ownsRow w.heap.size 63 5 (.slice A m c) m (sgs P) ∧ Below w.heap.size w w' := by
  subst ha; subst hb; subst hP; subst hm
  exact drawn_any Ap Aa n cp ca ps N a b w h hj ha0 ha1 hb0 hb1

set_option maxRecDepth 100000 in
set_option maxHeartbeats 8000000 in
theorem ref_Cut_row (A A0 : Option Addr) (n c n0 c0 : Nat) (l : List Sg) (on : List Int) (f : Int) (w : World) (h : Sl w 5 A n (sgs l)) (hok : mayB l = true) (hb : ∀ s ∈ l, s.kind ≠ 3)
    (ho : Sl w 1 A0 n0 (ints on)) (hr : Row on) (ho11 : on.length ≤ 11) (hf : 0 ≤ f ∧ f ≤ 2147483647) :
    Calls Tryz.prog 35 #[.slice A n c, .slice A0 n0 c0, .int .i64 f] w (CutPost w (cutL on f l)) := by
  have hl := h.sglen
  have hol := ho.intlen
  have hn3 : n ≤ 300 := by rw [← hl]; exact (mayB_from hok).2
  have hn0 : 1 ≤ n0 := by rw [← hol]; exact hr.len
  have hn11 : n0 ≤ 11 := by rw [← hol]; exact ho11
  have hn0' : ((n0 : Int) == 0) = false := by simp; omega
  have HB := Lib.hid hb
  have HOK := Lib.hid hok
  have HL := Lib.hid hl
  have HOL := Lib.hid hol
  have HRR := Lib.hid hr
  obtain ⟨hf0, hf1⟩ := hf
  have hrb := Lib.hid (fun k => sum_bd hr.nonneg hr.most k)
  have hsum := hr.some
  have hsum2 := row_sum hr
  rw [hol] at hsum2
  clear hb hok hl
  go_enter Tryz.func35, Tryz.ntmps35
  go_wp2_with fail
  refine (ref_Straight_any A n c l w (by omega) h HOK.out HB.out).mono ?_; rintro e w1 ⟨rfl, hb1⟩
  go_wp2_with fail
  refine (ref_MayDash_any A0 n0 c0 on _ (ho.below hb1) hr ho11).mono ?_; rintro e w2 ⟨rfl, rfl⟩
  have ho1 := ho.below hb1
  clear hol ho hr
  go_wp2
  go_loop [8, 9] (fun s i => ∃ k : Nat, k ≤ n0 ∧ i = .int .i64 k ∧ s = .int .i64 (on.take k).sum) (fun _ i => n0 - (intOf i).toNat)
  case atStart => exact ⟨0, by omega, rfl, rfl⟩
  case round =>
    obtain ⟨k, hk, rfl, rfl⟩ := hrel
    obtain ⟨b0, b1⟩ := hrb.out k (by rw [HOL.out]; exact hk)
    by_cases hlt : k < n0
    · have hkl : k < on.length := by rw [HOL.out]; exact hlt
      obtain ⟨b, off, rfl, hb, c0⟩ := ho1.intAt k hlt hkl
      have v0 := HRR.out.nonneg _ (List.getElem_mem hkl)
      have v1 := HRR.out.most _ (List.getElem_mem hkl)
      have hst := sum_take on k hkl
      obtain ⟨z, hz⟩ : ∃ z, z = on[k] := ⟨_, rfl⟩
      rw [← hz] at c0 v0 v1 hst
      have HST := Lib.hid hst
      clear hst hz
      go_wp2
      go_round
      case rel => exact ⟨k + 1, by omega, by go_num, by rw [HST.out]⟩
      case measure => simp [intOf]; omega
    · obtain rfl : k = n0 := by omega
      have ht : on.take k = on := List.take_of_length_le (by rw [HOL.out]; omega)
      rw [ht] at b0 b1 ⊢
      obtain ⟨S, hS⟩ : ∃ S, S = on.sum := ⟨_, rfl⟩
      rw [← hS] at hsum hsum2 b0 b1 ⊢
      have HSS := Lib.hid hS
      clear ht hS hrb
      go_upto_if 55 with (fail)
      go_cut [2] (fun s2 wx => ∃ f2 : Int, s2 = .int .i64 f2 ∧ Hid (f2 = redF (2 * S) f) ∧ wx = w1)
      case first =>
        by_cases hfs : 2 * S ≤ f
        · have hrd : f % (2 * S) + 2 * S = redF (2 * S) f := by unfold redF; rw [if_pos hfs]
          have hm0 := Int.emod_nonneg f (show (2 * S) ≠ 0 by omega)
          have hm1 := Int.emod_lt_of_pos f (show 0 < 2 * S by omega)
          have hmm : f.tmod (2 * S) = f % (2 * S) := Int.tmod_eq_emod_of_nonneg hf0
          have HRD := Lib.hid hrd
          have HMM := Lib.hid hmm
          have hS0 : ((2 * S) == 0) = false := by simp; omega
          clear hrd hmm
          go_wp2
          go_meet
          exact ⟨_, rfl, HRD, rfl⟩
        · have hrd : f = redF (2 * S) f := by unfold redF; rw [if_neg hfs]
          have HRD := Lib.hid hrd
          clear hrd
          go_wp2
          go_meet
          exact ⟨f, rfl, HRD, rfl⟩
      case rest =>
        obtain ⟨f2, rfl, hf2, rfl⟩ := hcut
        obtain ⟨q0, q1⟩ := redF_bd (R := 2 * S) (by omega) hf0
        rw [← hf2.out] at q0 q1
        have q2 : f2 ≤ 1500000 := by omega
        have HF2 : Hid (∀ ps, dashW on f2 ps = dashW on f ps) := fun ps => by rw [hf2.out, HSS.out]; exact red2 HRR.out f ps
        obtain ⟨cs, hcs⟩ : ∃ cs, ctsL l = cs := ⟨_, rfl⟩
        have hcl : cs.length ≤ 300 := by rw [← hcs]; have := cts_len l; have := HL.out; omega
        have hes : ∀ c ∈ cs, c.es.length ≤ 300 := fun c hc => by rw [← hcs] at hc; have := cts_es l c hc; have := HL.out; omega
        have hgd : ∀ c ∈ cs, GoodC c := by rw [← hcs]; exact ctsL_good l
        have hst : ∀ c ∈ cs, ∀ e ∈ c.es, e.bent = false := by rw [← hcs]; exact ctsL_straight HB.out
        obtain ⟨nc, hnc⟩ : ∃ nc, cs.length = nc := ⟨_, rfl⟩
        rw [hnc] at hcl
        have HCS := Lib.hid hcs
        have HES := Lib.hid hes
        have HGD := Lib.hid hgd
        have HSTR := Lib.hid hst
        have HNC := Lib.hid hnc
        have hp1 := h.below hb1
        clear hcs hes hgd hst hnc hf2
        go_wp2_with fail
        refine (ref_Contours_any A n c l cs _ (by omega) hp1 HCS.out).mono ?_; rintro e w3 ⟨A3, c3, rfl, hc3, hb3⟩
        rw [HNC.out] at hc3 ⊢
        have ho3 := ho1.below hb3
        have B3 := btr hb1 hb3
        clear hb3 ho1
        go_wp2
        go_loopw [10, 12] (fun out i wr => ∃ (j m : Nat) (A' : Option Addr) (c' : Nat), j ≤ nc ∧ out = .slice A' m c' ∧ i = .int .i64 (j : Int) ∧ Below w3.heap.size w3 wr ∧ m ≤ 300 ∧
          wr.ownsRow w3.heap.size 63 5 (.slice A' m c') m (sgs ((cs.take j).flatMap (dashC on f)))) (fun _ i _ => nc - (intOf i).toNat)
        case atStart => exact ⟨0, 0, none, 0, by omega, rfl, rfl, Below.refl _ _, by omega, own_nil⟩
        case round =>
          obtain ⟨wo, rfl⟩ : ∃ wo : World, wo = wr := ⟨_, rfl⟩
          obtain ⟨j, m, A4, c4, hj, rfl, rfl, hbo, hm3, hown⟩ := hrel
          by_cases hlt : j < nc
          · have hjl : j < cs.length := by rw [HNC.out]; exact hlt
            obtain ⟨b, off, AE, cE, rfl, hbl, d0, d1, d2, d3, hse⟩ := hc3.get j hlt hjl
            have hgj := HGD.out _ (List.getElem_mem hjl)
            have hsj := HSTR.out _ (List.getElem_mem hjl)
            have hej := HES.out _ (List.getElem_mem hjl)
            have hft := flat_take (dashC on f) cs j hjl
            obtain ⟨ct, hct⟩ : ∃ ct, ct = cs[j] := ⟨_, rfl⟩
            rw [← hct] at d0 d1 d2 d3 hse hgj hsj hej hft
            obtain ⟨u, hu⟩ : ∃ u, ct.es.length = u := ⟨_, rfl⟩
            rw [hu] at d2 hse hej
            have hbl2 : b < wo.heap.size := Nat.lt_of_lt_of_le hbl hbo.size
            replace d0 := (later_cell hbo hbl).trans d0
            replace d1 := (later_cell hbo hbl).trans d1
            replace d2 := (later_cell hbo hbl).trans d2
            replace d3 := (later_cell hbo hbl).trans d3
            obtain ⟨ps, hps⟩ : ∃ ps, piecesC ct = ps := ⟨_, rfl⟩
            have hpl2 : ps.length ≤ 301 := by rw [← hps]; have := piecesC_len ct; omega
            have hjn : Joined ps := by rw [← hps]; exact pieces_joined hgj
            obtain ⟨p, hp⟩ : ∃ p, ps.length = p := ⟨_, rfl⟩
            obtain ⟨N, hN⟩ : ∃ N, sumL ps = N := ⟨_, rfl⟩
            rw [hp] at hpl2
            have HJN := Lib.hid hjn
            have HGJ := Lib.hid hgj
            have HSJ := Lib.hid hsj
            have HFT := Lib.hid hft
            have HU := Lib.hid hu
            have HCT := Lib.hid hct
            have HPS := Lib.hid hps
            have HP := Lib.hid hp
            have HN := Lib.hid hN
            have hse2 := hse.below hbo
            clear hgj hsj hft hu hct hse hps hp hN hjn
            go_wp2_with fail
            refine (rway_any ct AE u cE ps p N _ (by omega) hse2 HGJ.out HSJ.out HPS.out HP.out HN.out).mono ?_
            rintro e w4 ⟨Ap, Aa, cp, ca, rfl, hway, hbw4, hab⟩
            have hsb := hway.sum 0
            have hN0 : 0 ≤ N ∧ N ≤ 23167000 := by have := sumL_nonneg ps; have := HN.out; omega
            have HAB := Lib.hid hab
            have hz4 := hbw4.size
            clear hsb hab
            go_wp2
            obtain ⟨w5, hw5⟩ : ∃ w5 : World, w5 = w4.alloc (.cells #[.slice Ap p cp, .slice Aa p ca, .int .i64 N] 122) := ⟨_, rfl⟩
            rw [← hw5]
            have k0 : w5.cell? ⟨w4.heap.size, 0, none⟩ = some (.slice Ap p cp) := by rw [hw5]; exact new_cell _ 0
            have k1 : w5.cell? ⟨w4.heap.size, 1, none⟩ = some (.slice Aa p ca) := by rw [hw5]; exact new_cell _ 1
            have k2 : w5.cell? ⟨w4.heap.size, 2, none⟩ = some (.int .i64 N) := by rw [hw5]; exact new_cell _ 2
            have hway5 : RWayIn w5 Ap Aa p ps := by rw [hw5]; exact hway.below (bal (Below.refl _ _) _)
            have hb05 : Below wo.heap.size wo w5 := by rw [hw5]; exact bal hbw4 _
            have hz5 : w4.heap.size < w5.heap.size := by rw [hw5]; simp
            have hmd := Mid.refl wo.heap.size w5
            have hown5 := own_below hown hb05
            have hoff : Off wo.heap.size w5.heap.size (.slice A4 m c4) := Off.old hown _
            clear hw5 hway hbw4 hown
            have hpm0 : pre on 0 = 0 := rfl
            go_loopw [10, 14, 15] (fun out si ii wi => ∃ (q mm : Nat) (A' : Option Addr) (c' : Nat), out = .slice A' mm c' ∧ si = .int .i64 (pre on q) ∧ ii = .int .i64 (q : Int) ∧ Below w3.heap.size w3 wi ∧ mm ≤ 300 ∧ Mid wo.heap.size w5.heap.size w5 wi ∧ Off wo.heap.size w5.heap.size (.slice A' mm c') ∧
              (q = 0 ∨ (0 < N ∧ pre on q - f2 ≤ N + 32767)) ∧ wi.ownsRow w3.heap.size 63 5 (.slice A' mm c') mm (sgs ((cs.take j).flatMap (dashC on f) ++ dashTo on f2 ps q))) (fun _ _ ii _ => bnd on f2 N - (intOf ii).toNat)
            case atStart => exact ⟨0, m, A4, c4, rfl, rfl, rfl, btr hbo hb05, hm3, hmd, hoff, Or.inl rfl, by simpa [dashTo] using hown5⟩
            case round =>
              obtain ⟨q, mm, A6, c6, rfl, rfl, rfl, hbi, hmm, hmdi, hoffi, hpn, howni⟩ := hrel
              have j0 : wr.cell? ⟨w4.heap.size, 0, none⟩ = some (.slice Ap p cp) := (hmdi.cell (by omega) hz5).trans k0
              have j1 : wr.cell? ⟨w4.heap.size, 1, none⟩ = some (.slice Aa p ca) := (hmdi.cell (by omega) hz5).trans k1
              have j2 : wr.cell? ⟨w4.heap.size, 2, none⟩ = some (.int .i64 N) := (hmdi.cell (by omega) hz5).trans k2
              have hnn := HRR.out.nonnegP q
              have hpb : pre on q ≤ 100000000 := by
                rcases hpn with h1 | h1
                · rw [h1, hpm0]; omega
                · omega
              by_cases hN1 : N = 0
              · subst hN1
                have hdd : dashC on f ct = [] ∧ dashTo on f2 ps q = [] := ⟨dashW_none (by rw [HPS.out, HN.out]) on f, dashTo_none HN.out on f2 q⟩
                have howne : wr.ownsRow w3.heap.size 63 5 (.slice A6 mm c6) mm (sgs ((cs.take (j + 1)).flatMap (dashC on f))) := by rw [HFT.out, hdd.1, ← hdd.2]; exact howni
                clear hdd howni
                go_wp2
                try rw [Exit.noGoto_normal]
                go_wp2
                go_roundw
                case rel => exact ⟨j + 1, mm, A6, c6, by omega, rfl, by go_num, hbi, hmm, howne⟩
                case measure => simp [intOf]; omega
              · have hN2 : 0 < N := by omega
                by_cases hend : N ≤ pre on q - f2
                · have hda := dashTo_all HRR.out (f := f2) (ps := ps) (k := q) (by rw [HN.out]; exact hend)
                  have hdd : dashTo on f2 ps q = dashC on f ct := by rw [hda, HF2.out ps]; unfold dashC; rw [HPS.out]
                  have howne : wr.ownsRow w3.heap.size 63 5 (.slice A6 mm c6) mm (sgs ((cs.take (j + 1)).flatMap (dashC on f))) := by rw [HFT.out, ← hdd]; exact howni
                  clear hda hdd howni
                  go_wp2
                  try rw [Exit.noGoto_normal]
                  go_wp2
                  go_roundw
                  case rel => exact ⟨j + 1, mm, A6, c6, by omega, rfl, by go_num, hbi, hmm, howne⟩
                  case measure => simp [intOf]; omega
                · have hlb := lt_bnd HRR.out (f := f2) (n := N) (k := q) (by omega)
                  have hqb : q ≤ 1000000000 := by
                    have h1 := hlb
                    unfold bnd at h1
                    rw [HOL.out] at h1
                    have h2 : ((N + f2).toNat + 1) * k ≤ 40000000 * 22 := Nat.mul_le_mul (by omega) (by omega)
                    omega
                  have hg := HRR.out.get q
                  have hql : q % on.length < k := by rw [← HOL.out]; exact Nat.mod_lt _ HRR.out.len
                  rw [HOL.out] at hg hql
                  obtain ⟨bR, oR, rfl, hbR, c0⟩ := ho3.intAt (q % k) hql (by rw [HOL.out]; exact hql)
                  have hz : on[q % k]'(by rw [HOL.out]; exact hql) = on.getD (q % k) 0 := by rw [List.getD_eq_getElem?_getD, List.getElem?_eq_getElem (by rw [HOL.out]; exact hql)]; rfl
                  rw [hz] at c0
                  have hpq : pre on (q + 1) = pre on q + on.getD (q % k) 0 := by show pre on q + on.getD (q % on.length) 0 = _; rw [HOL.out]
                  have hsucc := dashTo_succ on f2 ps q
                  have hdl := dashAt_len on f2 ps q
                  obtain ⟨z, hzz⟩ : ∃ z, z = on.getD (q % k) 0 := ⟨_, rfl⟩
                  rw [← hzz] at c0 hg hpq
                  obtain ⟨s, hs⟩ : ∃ s, s = pre on q := ⟨_, rfl⟩
                  obtain ⟨e, he⟩ : ∃ e, e = s + z := ⟨_, rfl⟩
                  have hda : dashAt on f2 ps q = if q % 2 = 0 ∧ 0 < N ∧ s - f2 < N ∧ (0 < e - f2 ∨ (e - f2 = 0 ∧ s - f2 = 0)) then partW ps (max (s - f2) 0) (min (e - f2) N) else [] := by
                    unfold dashAt
                    have h1 : pre on (q + 1) - f2 = e - f2 := by omega
                    rw [h1, ← hs, HN.out]
                  replace c0 := (later_cell hbi hbR).trans c0
                  have hqr : ((q : Int)).tmod (k : Int) = ((q % k : Nat) : Int) := by rw [Int.tmod_eq_emod_of_nonneg (by omega)]; rfl
                  have hsb : s - f2 < N := by omega
                  have hsle : s ≤ e := by omega
                  have heb : 0 ≤ e ∧ e ≤ 200000000 := by omega
                  obtain ⟨heb0, heb1⟩ := heb
                  rw [← hs] at hnn hpb ⊢
                  have HDA := Lib.hid hda
                  have HSU := Lib.hid hsucc
                  have HPQ := Lib.hid hpq
                  have HSS2 := Lib.hid hs
                  have HEE := Lib.hid he
                  have HHH := Lib.hid hzz
                  clear hda hsucc hpq hs he hzz hz hpn hend
                  obtain ⟨dr, hdr⟩ : ∃ dr : Bool, dr = decide (q % 2 = 0 ∧ (0 < e - f2 ∨ (e - f2 = 0 ∧ s - f2 = 0))) := ⟨_, rfl⟩
                  have HDR := Lib.hid hdr
                  clear hdr
                  go_upto_region 23 with (fail)
                  rw [HEE.out.symm]
                  obtain ⟨lf, hlf⟩ : ∃ lf : Bool, lf = decide (e < f2 ∨ (e = f2 ∧ s < f2)) := ⟨_, rfl⟩
                  have HLF := Lib.hid hlf
                  clear hlf
                  go_cut [16, 17] (fun s16 s17 wx => s16 = .int .i64 e ∧ s17 = .bool lf ∧ wx = wr)
                  case first =>
                    go_wp2
                    all_goals
                      go_meet
                      refine ⟨by first | rfl | (congr 1; omega), congrArg Value.bool ?_, rfl⟩
                      rw [HLF.out, Bool.eq_iff_iff]
                      simp only [decide_eq_true_eq, true_iff, Bool.false_eq_true, false_iff]
                      omega
                  case rest =>
                    obtain ⟨rfl, rfl, rfl⟩ := hcut
                    go_upto_region 24 with (fail)
                    go_cut [17, 119] (fun s17 sb wx => s17 = .bool lf ∧ sb = .bool dr ∧ wx = wc)
                    case first =>
                      cases hlf : lf
                      all_goals
                        have hlf2 := HLF.out
                        rw [hlf, eq_comm] at hlf2
                        have HLF2 := Lib.hid hlf2
                        have HLF3 := Lib.hid hlf
                        clear hlf2 hlf
                        go_wp2
                      all_goals
                        have hlf2 := HLF2.out
                        simp only [decide_eq_true_eq, decide_eq_false_iff_not] at hlf2
                        go_meet
                        refine ⟨congrArg Value.bool HLF3.out.symm, congrArg Value.bool ?_, rfl⟩
                        rw [HDR.out, Bool.eq_iff_iff]
                        simp only [decide_eq_true_eq, true_iff, Bool.false_eq_true, false_iff]
                        omega
                    case rest =>
                     obtain ⟨rfl, rfl, rfl⟩ := hcut
                     go_upto_if 119 with (fail)
                     go_cut [10] (fun s10 wx => ∃ (mm' : Nat) (A' : Option Addr) (c' : Nat), s10 = .slice A' mm' c' ∧ Below w3.heap.size w3 wx ∧ mm' ≤ 700 ∧ Mid wo.heap.size w5.heap.size w5 wx ∧ Off wo.heap.size w5.heap.size (.slice A' mm' c') ∧
                       wx.ownsRow w3.heap.size 63 5 (.slice A' mm' c') mm' (sgs ((cs.take j).flatMap (dashC on f) ++ dashTo on f2 ps (q + 1))))
                     case first =>
                       cases hdrv : dr
                       · have hnone : dashAt on f2 ps q = [] := by
                           rw [HDA.out, if_neg]
                           intro hh
                           have := HDR.out
                           rw [hdrv, eq_comm, decide_eq_false_iff_not] at this
                           exact this ⟨hh.1, hh.2.2.2⟩
                         have HNO := Lib.hid hnone
                         clear hnone hdrv
                         go_wp2
                         go_meet
                         exact ⟨mm, A6, c6, rfl, hbi, by omega, hmdi, hoffi, by rw [HSU.out, HNO.out, List.append_nil]; exact howni⟩
                       · have hyes : dashAt on f2 ps q = partW ps (max (s - f2) 0) (min (e - f2) N) ∧ (0 < e - f2 ∨ (e - f2 = 0 ∧ s - f2 = 0)) := by
                           have := HDR.out
                           rw [hdrv, eq_comm, decide_eq_true_eq] at this
                           rw [HDA.out, if_pos ⟨this.1, by omega, by omega, this.2⟩]
                           exact ⟨rfl, this.2⟩
                         obtain ⟨hyes, hee⟩ := hyes
                         have he0 : 0 ≤ e - f2 := by omega
                         have hse0 : s ≤ e := by have := HEE.out; omega
                         have HYE := Lib.hid hyes
                         have hwc := hway5.mid hmdi HAB.out
                         obtain ⟨dl, hdlen⟩ : ∃ dl, (dashAt on f2 ps q).length = dl := ⟨_, rfl⟩
                         rw [hdlen, HP.out] at hdl
                         have HDL := Lib.hid hdlen
                         have hNs : N = sumL ps := HN.out.symm
                         have HNS := Lib.hid hNs
                         clear hyes hdrv hee hdlen hNs
                         go_wp2_with fail
                         all_goals
                           refine (drawn_is Ap Aa p cp ca dl ps N _ _ (max (s - f2) 0) (min (e - f2) N) (dashAt on f2 ps q) _ hwc HJN.out (by omega) (by rw [← HNS.out]; omega) (by omega) (by rw [← HNS.out]; omega) (by omega) (by omega) HYE.out HDL.out).mono ?_
                           rintro e' w6 ⟨A7, c7, rfl, hown7, hb6⟩
                           have hbi6 := btr hbi hb6
                           have hsz6 := hbi6.size
                           go_wp2_with (at_builtin; refine wpList_app rfl _ _ 24 rfl w3.heap.size sgT2 rfl (own_below howni hb6) (sgs (dashAt on f2 ps q)) rfl (own_sl hown7) (oneCell_sgs _) (by omega) hsz6 ?_; intro A8 c8 w8 hown8 hg8 hat8)
                           go_meet
                           exact ⟨mm + dl, A8, c8, rfl, grown_below hbi6 hg8 (own_below howni hb6), by omega, (hmdi.bel hb6).grown hoffi hg8, hoffi.next hat8 ((hmdi.bel hb6).1), by rw [HSU.out, ← List.append_assoc, sgs_app]; exact hown8⟩
                     case rest =>
                       obtain ⟨m7, A7, c7, rfl, hb7, hm7, hmd7, hoff7, hown7⟩ := hcut
                       by_cases hov : 300 < m7
                       · have hcut2 : cutL on f l = ([], 5) := by
                           refine cutL_over2 (k := j) (j := q + 1) (c := ct) (f2 := f2) HRR.out.ne HRR.out (by rw [HCS.out, List.getElem?_eq_getElem hjl, HCT.out]) HF2.out ?_
                           have h1 := (own_sl hown7).sglen
                           rw [HCS.out, HPS.out, h1]; exact hov
                         have HCUT := Lib.hid hcut2
                         clear hcut2
                         go_wp2
                         try rw [Exit.noGoto_ret]
                         go_ret2
                         rw [HCUT.out]
                         exact ⟨none, 0, rfl, own_nil, btr B3 hb7⟩
                       · have hnx : pre on (q + 1) = e := by rw [HPQ.out, HEE.out, HSS2.out]
                         have HNX := Lib.hid hnx
                         have HM7 : Hid (m7 ≤ 300) := (by omega : m7 ≤ 300)
                         have HE7 : Hid (0 < N ∧ e - f2 ≤ N + 32767) := ⟨hN2, by have := HEE.out; omega⟩
                         have HLB : Hid (q < bnd on f2 N) := hlb
                         clear hnx
                         go_wp2
                         go_roundw
                         case rel => exact ⟨q + 1, m7, A7, c7, rfl, by rw [HNX.out], by go_num, hb7, HM7.out, hmd7, hoff7, Or.inr (by rw [HNX.out]; exact HE7.out), hown7⟩
                         case measure => have := HLB.out; simp [intOf]; omega
          · obtain rfl : j = nc := by omega
            have htk : cs.take j = cs := List.take_of_length_le (by rw [HNC.out]; omega)
            rw [htk] at hown
            have hml : (dashL on f l).length = m := by unfold dashL; rw [HCS.out]; exact (own_sl hown).sglen
            have hall := cutL_all (f := f) (l := l) HRR.out.ne (by rw [hml]; exact hm3)
            have HALL := Lib.hid hall
            have HML := Lib.hid hml
            have hown' : wo.ownsRow w3.heap.size 63 5 (.slice A4 m c4) m (sgs (dashL on f l)) := by unfold dashL; rw [HCS.out]; exact hown
            clear htk hall hml hown
            go_wp2
            go_ret2
            rw [HALL.out]
            refine ⟨A4, c4, by simp only [HML.out]; rfl, ?_, btr B3 hbo⟩
            simp only [HML.out]
            exact own_mono hown' B3.size
end Go.Proofs.YtdfkbbcoolgfiaaGreat
