/- dash.Cut. -/
import Derived.Test.YtdfkbbcoolgfiaaGreatMDd
import Derived.Test.YtdfkbbcoolgfiaaGreatMDp
import Derived.Test.YtdfkbbcoolgfiaaGreatCts
import Derived.Deep.DeepCutAuto
namespace Go.Proofs.YtdfkbbcoolgfiaaGreat
open Go.RowKit

/-- What Cut hands back. -/
def CutPost (w : World) (r : List Sg × Int) (e : Ending) (w' : World) : Prop :=
  ∃ (A : Option Addr) (c : Nat), e = .returned (.tuple #[.slice A r.1.length c, .int .i64 r.2]) ∧ w'.ownsRow w.heap.size 63 5 (.slice A r.1.length c) r.1.length (sgs r.1) ∧ Below w.heap.size w w'

theorem own_empty (w : World) (t : TypeId) (s base g : Nat) (hb : base ≤ w.heap.size) (hg : w.heap.size = g) : (w.alloc (.cells #[] t)).ownsRow base t s (.slice (some ⟨g, 0, none⟩) 0 0) 0 [] :=
  own_new (w := w) (t := t) (n := 0) (s := s) (base := base) [] hg (by simp) (by omega) (by omega)

set_option maxHeartbeats 1000000 in
theorem Cut_nil (A A0 : Option Addr) (n c c0 : Nat) (l : List Sg) (f : Int) (w : World) (h : Sl w 5 A n (sgs l)) (hok : mayB l = true) (hb : ∀ s ∈ l, s.kind ≠ 3) (hf : 0 ≤ f ∧ f ≤ 2147483647) :
    Calls Tryz.prog 71 #[.slice A n c, .slice A0 0 c0, .int .i64 f] w (CutPost w (l, 0)) := by
  have hl := h.sglen
  have hn3 : n ≤ 300 := by rw [← hl]; exact (mayB_from hok).2
  have HB := Lib.hid hb
  have HOK := Lib.hid hok
  have HL := Lib.hid hl
  obtain ⟨hf0, hf1⟩ := hf
  clear hb hok hl
  go_enter Tryz.func71, Tryz.ntmps71
  go_wp2_with fail
  refine (dash_plain_any A n c l w (by omega) h HOK.out HB.out).mono ?_; rintro e w1 ⟨rfl, hb1⟩
  go_wp2_with fail
  refine (dash_May_nil _ _ _).mono ?_; rintro e w2 ⟨rfl, rfl⟩
  go_wp2_with (at_builtin; refine wpList_app rfl _ _ 24 rfl w1.heap.size sgT2 rfl (own_empty w1 _ _ _ _ (Nat.le_refl _) rfl) (sgs l) rfl ((h.below hb1).below (bal (Below.refl _ _) _)) (oneCell_sgs _) (by omega) (by simp) ?_; intro A5 c5 w5 hown5 hg5 hat5)
  go_ret2
  refine ⟨A5, c5, by rw [HL.out]; rfl, ?_, btr hb1 (grown_below (bal (Below.refl _ _) _) hg5 (own_empty w1 _ 5 _ _ (Nat.le_refl _) rfl))⟩
  simp only [HL.out]
  rw [Nat.zero_add, List.nil_append] at hown5
  exact own_mono hown5 hb1.size

/-- The row of lengths in memory. -/
structure RowIn (w : World) (B : Nat) (A : Option Addr) (r c : Nat) (R : List Int) : Prop where
  own : w.ownsRow B 3 1 (.slice A r c) r (ints R)
theorem RowIn.len {w : World} {B r c : Nat} {A : Option Addr} {R : List Int} (h : RowIn w B A r c R) : R.length = r := (own_sl h.own).intlen
theorem ints_app (a b : List Int) : ints (a ++ b) = ints a ++ ints b := by simp [ints]

theorem Mid.sl {lo s n : Nat} {w wi : World} {A : Option Addr} {xs : List Value} (h : Mid lo w.heap.size w wi) (hs : Sl w s A n xs) (hb : ∀ a, A = some a → lo ≤ a.block) : Sl wi s A n xs :=
  ⟨hs.1, fun hn => by
    obtain ⟨b, off, e, hlt, hc⟩ := hs.2 hn
    exact ⟨b, off, e, Nat.lt_of_lt_of_le hlt h.1, fun j u hu => (h.cell (hb _ e) hlt).trans (hc j u hu)⟩⟩
theorem WayIn.mid {lo n : Nat} {w wi : World} {Ap Ae : Option Addr} {ps : List Ed} (h : Mid lo w.heap.size w wi) (hs : WayIn w Ap Ae n ps) (hb : ∀ a, Ap = some a ∨ Ae = some a → lo ≤ a.block) : WayIn wi Ap Ae n ps :=
  ⟨hs.len, hs.few, hs.all, h.sl hs.p fun a e => hb a (.inl e), h.sl hs.e fun a e => hb a (.inr e)⟩
theorem part_is (Ap Ae : Option Addr) (n cp ce m : Nat) (ps : List Ed) (a b a' b' : Int) (P : List Sg) (w : World) (h : WayIn w Ap Ae n ps) (h0 : 0 < n) (ha0 : 0 ≤ a') (ha1 : a' ≤ sumL ps) (hb0 : 0 ≤ b') (hb1 : b' ≤ sumL ps) (ha : a = a') (hb : b = b') (hP : P = partW ps a' b') (hm : P.length = m) :
    Calls Tryz.prog 126 #[.agg #[.slice Ap n cp, .slice Ae n ce], .int .i64 a, .int .i64 b] w
      fun e w' => ∃ (A : Option Addr) (c : Nat), e = .returned (.slice A m c) ∧ w'.ownsRow w.heap.size 63 5 (.slice A m c) m (sgs P) ∧ Below w.heap.size w w' := by
  subst ha; subst hb; subst hP; subst hm
  exact part_any Ap Ae n cp ce ps a b w h h0 ha0 ha1 hb0 hb1

set_option maxRecDepth 100000 in
set_option maxHeartbeats 8000000 in
theorem Cut_row (A A0 : Option Addr) (n c n0 c0 : Nat) (l : List Sg) (on : List Int) (f : Int) (w : World) (h : Sl w 5 A n (sgs l)) (hok : mayB l = true) (hb : ∀ s ∈ l, s.kind ≠ 3)
    (ho : Sl w 1 A0 n0 (ints on)) (hr : Row on) (ho11 : on.length ≤ 11) (hf : 0 ≤ f ∧ f ≤ 2147483647) :
    Calls Tryz.prog 71 #[.slice A n c, .slice A0 n0 c0, .int .i64 f] w (CutPost w (cutL on f l)) := by
  have hl := h.sglen
  have hol := ho.intlen
  have hn3 : n ≤ 300 := by rw [← hl]; exact (mayB_from hok).2
  have hn0 : 1 ≤ n0 := by rw [← hol]; exact hr.len
  have hn11 : n0 ≤ 11 := by rw [← hol]; exact ho11
  have hn0' : ((n0 : Int) == 0) = false := by simp; omega
  have HB := Lib.hid hb
  have HOK := Lib.hid hok
  have HL := Lib.hid hl
  have HOL := Lib.hid hol
  obtain ⟨hf0, hf1⟩ := hf
  clear hb hok hl
  go_enter Tryz.func71, Tryz.ntmps71
  go_wp2_with fail
  refine (dash_plain_any A n c l w (by omega) h HOK.out HB.out).mono ?_; rintro e w1 ⟨rfl, hb1⟩
  go_wp2_with fail
  refine (dash_May_any A0 n0 c0 on _ (ho.below hb1) hr ho11).mono ?_; rintro e w2 ⟨rfl, rfl⟩
  have ho1 := ho.below hb1
  go_upto_if 48 with (at_builtin; refine wpList_app rfl _ _ 28 rfl w1.heap.size inT2 rfl (own_empty w1 _ _ _ _ (Nat.le_refl _) rfl) (ints on) rfl (ho1.below (bal (Below.refl _ _) _)) (oneCell_ints _) (by omega) (by simp) ?_; intro A5 c5 w5 hown5 hg5 hat5)
  go_cut [8] (fun s8 wx => ∃ (AR : Option Addr) (r cr : Nat) (R : List Int), s8 = .slice AR r cr ∧ RowIn wx w1.heap.size AR r cr R ∧ Below w1.heap.size w1 wx ∧ Hid (R = evenR on))
  case first =>
    rw [Nat.zero_add, List.nil_append] at hown5
    have HWN := Lib.hid hown5
    have hgw := grown_below (bal (Below.refl w1.heap.size w1) _) hg5 (own_empty w1 _ 1 _ _ (Nat.le_refl _) rfl)
    clear hown5
    by_cases hod : n0 % 2 = 1
    · have hod1 : ((n0 : Int) % 2 == 1) = true := by simp; omega
      have hod2 : (n0 % 2 == 1) = true := by simp; omega
      have HOD : Hid (n0 % 2 = 1) := hod
      clear hod
      go_wp2_with (at_builtin; refine wpList_app rfl _ _ 28 rfl w1.heap.size inT2 rfl HWN.out (ints on) rfl (ho1.below hgw) (oneCell_ints _) (by omega) (by have := hgw.size; omega) ?_; intro A6 c6 w6 hown6 hg6 hat6)
      go_meet
      refine ⟨A6, _, c6, on ++ on, rfl, ⟨?_⟩, grown_below hgw hg6 HWN.out, ?_⟩
      · rw [ints_app]; exact hown6
      · show _ = _
        unfold evenR; rw [if_pos (by rw [HOL.out]; exact HOD.out)]
    · have hod1 : ((n0 : Int) % 2 == 1) = false := by simp; omega
      have hod2 : (n0 % 2 == 1) = false := by simp; omega
      have HOD : Hid (¬ n0 % 2 = 1) := hod
      clear hod
      go_wp2
      go_meet
      refine ⟨A5, _, c5, on, rfl, ⟨HWN.out⟩, hgw, ?_⟩
      show _ = _
      unfold evenR; rw [if_neg (by rw [HOL.out]; exact HOD.out)]
  case rest =>
    obtain ⟨AR, r, cr, R, rfl, hri, hbw, hre⟩ := hcut
    have hrl := hri.len
    have hrr : Row R := by rw [hre.out]; exact evenR_row hr
    have hr22 : r ≤ 22 := by have := evenR_len on; rw [← hrl, hre.out]; omega
    have hr0 : 1 ≤ r := by rw [← hrl]; exact hrr.len
    have hrb := Lib.hid (fun k => sum_bd hrr.nonneg hrr.most k)
    have HRL := Lib.hid hrl
    have HRR := Lib.hid hrr
    have hsl := own_sl hri.own
    have hsum := hrr.some
    have hsum2 := row_sum hrr
    clear hrl hrr
    go_wp2
    go_loop [9, 54] (fun s i => ∃ k : Nat, k ≤ r ∧ i = .int .i64 k ∧ s = .int .i64 (R.take k).sum) (fun _ i => r - (intOf i).toNat)
    case atStart => exact ⟨0, by omega, rfl, rfl⟩
    case round =>
      obtain ⟨k, hk, rfl, rfl⟩ := hrel
      obtain ⟨b0, b1⟩ := hrb.out k (by rw [HRL.out]; exact hk)
      by_cases hlt : k < r
      · have hkl : k < R.length := by rw [HRL.out]; exact hlt
        obtain ⟨b, off, rfl, hb, c0⟩ := hsl.intAt k hlt hkl
        have v0 := HRR.out.nonneg _ (List.getElem_mem hkl)
        have v1 := HRR.out.most _ (List.getElem_mem hkl)
        have hst := sum_take R k hkl
        obtain ⟨z, hz⟩ : ∃ z, z = R[k] := ⟨_, rfl⟩
        rw [← hz] at c0 v0 v1 hst
        have HST := Lib.hid hst
        clear hst hz
        go_wp2
        go_round
        case rel => exact ⟨k + 1, by omega, by go_num, by rw [HST.out]⟩
        case measure => simp [intOf]; omega
      · obtain rfl : k = r := by omega
        have ht : R.take k = R := List.take_of_length_le (by rw [HRL.out]; omega)
        rw [ht] at b0 b1 ⊢
        obtain ⟨S, hS⟩ : ∃ S, S = R.sum := ⟨_, rfl⟩
        rw [← hS] at hsum b0 b1 ⊢
        have HSS := Lib.hid hS
        clear ht hS hrb hsum2
        go_upto_if 64 with (fail)
        go_cut [2] (fun s2 wx => ∃ f2 : Int, s2 = .int .i64 f2 ∧ Hid (f2 = redF S f) ∧ wc = wx)
        case first =>
          by_cases hfs : S ≤ f
          · have hrd : f % S + S = redF S f := by unfold redF; rw [if_pos hfs]
            have hm0 := Int.emod_nonneg f (show S ≠ 0 by omega)
            have hm1 := Int.emod_lt_of_pos f hsum
            have hmm : f.tmod S = f % S := Int.tmod_eq_emod_of_nonneg hf0
            have HRD := Lib.hid hrd
            have HMM := Lib.hid hmm
            have hS0 : (S == 0) = false := by simp; omega
            clear hrd hmm
            go_wp2
            go_meet
            exact ⟨_, rfl, HRD, rfl⟩
          · have hrd : f = redF S f := by unfold redF; rw [if_neg hfs]
            have HRD := Lib.hid hrd
            clear hrd
            go_wp2
            go_meet
            exact ⟨f, rfl, HRD, rfl⟩
        case rest =>
          obtain ⟨f2, rfl, hf2, rfl⟩ := hcut
          obtain ⟨q0, q1⟩ := redF_bd hsum hf0
          rw [← hf2.out] at q0 q1
          have q2 : f2 ≤ 1500000 := by omega
          have HF2 : Hid (∀ ps, dashW R f2 ps = dashW on f ps) := fun ps => by rw [hf2.out, HSS.out, hre.out]; exact evenR_red hr f ps
          have hF2R : f2 = redF (evenR on).sum f := by rw [hf2.out, HSS.out, hre.out]
          have HF2R := Lib.hid hF2R
          obtain ⟨cs, hcs⟩ : ∃ cs, ctsL l = cs := ⟨_, rfl⟩
          have hcl : cs.length ≤ 300 := by rw [← hcs]; have := cts_len l; have := HL.out; omega
          have hes : ∀ c ∈ cs, c.es.length ≤ 300 := fun c hc => by rw [← hcs] at hc; have := cts_es l c hc; have := HL.out; omega
          have hgd : ∀ c ∈ cs, GoodC c := by rw [← hcs]; exact ctsL_good l
          have hst : ∀ c ∈ cs, ∀ e ∈ c.es, e.bent = false := by rw [← hcs]; exact ctsL_straight HB.out
          obtain ⟨nc, hnc⟩ : ∃ nc, cs.length = nc := ⟨_, rfl⟩
          rw [hnc] at hcl
          have HCS := Lib.hid hcs
          have HES := Lib.hid hes
          have HGD := Lib.hid hgd
          have HSTR := Lib.hid hst
          have HNC := Lib.hid hnc
          have hp1 := h.below (btr hb1 hbw)
          clear hcs hes hgd hst hnc hF2R hf2
          go_wp2_with fail
          refine (Contours_any A n c l cs _ (by omega) hp1 HCS.out).mono ?_; rintro e w3 ⟨A3, c3, rfl, hc3, hb3⟩
          rw [HNC.out] at hc3 ⊢
          have hri3 : RowIn w3 w1.heap.size AR k cr R := ⟨own_below hri.own hb3⟩
          have B3 := btr (btr hb1 hbw) hb3
          clear hb3 hri hsl
          go_wp2
          go_loopw [12, 73] (fun out i wr => ∃ (j m : Nat) (A' : Option Addr) (c' : Nat), j ≤ nc ∧ out = .slice A' m c' ∧ i = .int .i64 (j : Int) ∧ Below w3.heap.size w3 wr ∧ m ≤ 300 ∧
            wr.ownsRow w3.heap.size 63 5 (.slice A' m c') m (sgs ((cs.take j).flatMap (dashC on f)))) (fun _ i _ => nc - (intOf i).toNat)
          case atStart => exact ⟨0, 0, none, 0, by omega, rfl, rfl, Below.refl _ _, by omega, own_nil⟩
          case round =>
            obtain ⟨wo, rfl⟩ : ∃ wo : World, wo = wr := ⟨_, rfl⟩
            obtain ⟨j, m, A4, c4, hj, rfl, rfl, hbo, hm3, hown⟩ := hrel
            by_cases hlt : j < nc
            · have hjl : j < cs.length := by rw [HNC.out]; exact hlt
              obtain ⟨b, off, AE, cE, rfl, hbl, d0, d1, d2, d3, hse⟩ := hc3.get j hlt hjl
              have hgj := HGD.out _ (List.getElem_mem hjl)
              have hsj := HSTR.out _ (List.getElem_mem hjl)
              have hej := HES.out _ (List.getElem_mem hjl)
              have hft := flat_take (dashC on f) cs j hjl
              obtain ⟨ct, hct⟩ : ∃ ct, ct = cs[j] := ⟨_, rfl⟩
              rw [← hct] at d0 d1 d2 d3 hse hgj hsj hej hft
              obtain ⟨u, hu⟩ : ∃ u, ct.es.length = u := ⟨_, rfl⟩
              rw [hu] at d2 hse hej
              have hbl2 : b < wo.heap.size := Nat.lt_of_lt_of_le hbl hbo.size
              replace d0 := (later_cell hbo hbl).trans d0
              replace d1 := (later_cell hbo hbl).trans d1
              replace d2 := (later_cell hbo hbl).trans d2
              replace d3 := (later_cell hbo hbl).trans d3
              have HGJ := Lib.hid hgj
              have HSJ := Lib.hid hsj
              have HFT := Lib.hid hft
              have HU := Lib.hid hu
              have HCT := Lib.hid hct
              have hse2 := hse.below hbo
              clear hgj hsj hft hu hct hse
              go_wp2_with fail
              go_step3
              go_wp2_with fail
              refine (walk_any ct AE u cE _ (by omega) (hse2.below (bal (Below.refl _ _) _)) HGJ.out HSJ.out).mono ?_
              rintro e w4 ⟨Ap, Ae, cp, ce, rfl, hway, hbw4, hab⟩
              obtain ⟨ps, hps⟩ : ∃ ps, piecesC ct = ps := ⟨_, rfl⟩
              rw [hps] at hway ⊢
              have hpl2 : ps.length ≤ 301 := by rw [← hps]; have := piecesC_len ct; have := HU.out; omega
              obtain ⟨p, hp⟩ : ∃ p, ps.length = p := ⟨_, rfl⟩
              rw [hp] at hway hpl2 ⊢
              obtain ⟨N, hN⟩ : ∃ N, sumL ps = N := ⟨_, rfl⟩
              have hsb := hway.sum 0
              rw [hN] at hsb
              have hN0 : 0 ≤ N ∧ N ≤ 23167000 := by have := sumL_nonneg ps; omega
              have HPS := Lib.hid hps
              have HP := Lib.hid hp
              have HN := Lib.hid hN
              have HAB := Lib.hid hab
              have hbox := btr (bal (Below.refl wo.heap.size wo) _) hbw4
              have hz4 := hbox.size
              clear hps hp hN hsb hab
              go_wp2_with fail
              refine (way_long_any Ap Ae p cp ce ps _ (hway.below (bal (Below.refl _ _) _))).mono ?_
              rintro e w5 ⟨rfl, hb5⟩
              rw [HN.out]
              have hmd := Mid.refl wo.heap.size w5
              have hway5 := (hway.below (bal (Below.refl _ _) _)).below hb5
              have k0 : w5.cell? ⟨w4.heap.size, 0, none⟩ = some (.slice Ap p cp) := (later_cell hb5 (by simp)).trans (new_cell _ 0)
              have k1 : w5.cell? ⟨w4.heap.size, 1, none⟩ = some (.slice Ae p ce) := (later_cell hb5 (by simp)).trans (new_cell _ 1)
              have hb05 : Below wo.heap.size wo w5 := btr (bal hbox _) hb5
              have hown5 := own_below hown hb05
              have hoff : Off wo.heap.size w5.heap.size (.slice A4 m c4) := Off.old hown _
              have hz5 : w4.heap.size < w5.heap.size := Nat.lt_of_lt_of_le (by simp) hb5.size
              have HAB' : Hid (∀ a, Ap = some a ∨ Ae = some a → wo.heap.size ≤ a.block) := fun a ha => Nat.le_trans (by simp) (HAB.out a ha)
              clear hb5 hway hbw4 hown HAB hbox
              by_cases hN1 : N = 0
              · have hNb : (N == 0) = true := by simp [hN1]
                have hd0 : dashC on f ct = [] := dashW_none (by rw [HPS.out, HN.out]; exact hN1) on f
                have HD0 := Lib.hid hd0
                clear hd0 hN1
                go_wp2_with fail
                try rw [Exit.noGoto_exit]
                go_wp2
                go_roundw
                case rel => exact ⟨j + 1, m, A4, c4, by omega, rfl, by go_num, btr hbo hb05, hm3, by rw [HFT.out, HD0.out, List.append_nil]; exact hown5⟩
                case measure => simp [intOf]; omega
              · have hNb : (N == 0) = false := by simp [hN1]
                have hN2 : 1 ≤ N := by omega
                clear hN1
                go_wp2_with fail
                go_step3
                go_wp2
                have hpm0 : pre R 0 = 0 := rfl
                go_loopw [12, 17, 18] (fun out si ii wi => ∃ (q mm : Nat) (A' : Option Addr) (c' : Nat), out = .slice A' mm c' ∧ si = .int .i64 (pre R q - f2) ∧ ii = .int .i64 (q : Int) ∧ Below w3.heap.size w3 wi ∧ mm ≤ 300 ∧ Mid wo.heap.size w5.heap.size w5 wi ∧ Off wo.heap.size w5.heap.size (.slice A' mm c') ∧
                  pre R q - f2 ≤ N + 32767 ∧ wi.ownsRow w3.heap.size 63 5 (.slice A' mm c') mm (sgs ((cs.take j).flatMap (dashC on f) ++ dashTo R f2 ps q))) (fun _ _ ii _ => bnd R f2 N - (intOf ii).toNat)
                case atStart => exact ⟨0, m, A4, c4, rfl, by rw [hpm0]; congr 1; omega, rfl, btr hbo hb05, hm3, hmd, hoff, by rw [hpm0]; omega, by simpa [dashTo] using hown5⟩
                case round =>
                  obtain ⟨q, mm, A6, c6, rfl, rfl, rfl, hbi, hmm, hmdi, hoffi, hpn, howni⟩ := hrel
                  by_cases hend : N ≤ pre R q - f2
                  · have hda := dashTo_all HRR.out (f := f2) (ps := ps) (k := q) (by rw [HN.out]; exact hend)
                    have hdd : dashTo R f2 ps q = dashC on f ct := by rw [hda, HF2.out ps]; unfold dashC; rw [HPS.out]
                    have howne : wr.ownsRow w3.heap.size 63 5 (.slice A6 mm c6) mm (sgs ((cs.take (j + 1)).flatMap (dashC on f))) := by rw [HFT.out, ← hdd]; exact howni
                    clear hda hdd howni
                    go_wp2
                    try rw [Exit.noGoto_normal]
                    go_wp2
                    go_roundw
                    case rel => exact ⟨j + 1, mm, A6, c6, by omega, rfl, by go_num, hbi, hmm, howne⟩
                    case measure => simp [intOf]; omega
                  · have hlb := lt_bnd HRR.out (f := f2) (n := N) (k := q) (by omega)
                    have hqb : q ≤ 1000000000 := by
                      have h1 := hlb
                      unfold bnd at h1
                      rw [HRL.out] at h1
                      have h2 : ((N + f2).toNat + 1) * k ≤ 40000000 * 22 := Nat.mul_le_mul (by omega) hr22
                      omega
                    have hg := HRR.out.get q
                    have hql : q % R.length < k := by rw [← HRL.out]; exact Nat.mod_lt _ HRR.out.len
                    rw [HRL.out] at hg hql
                    obtain ⟨bR, oR, rfl, hbR, c0⟩ := (own_sl hri3.own).intAt (q % k) hql (by rw [HRL.out]; exact hql)
                    have hz : R[q % k]'(by rw [HRL.out]; exact hql) = R.getD (q % k) 0 := by rw [List.getD_eq_getElem?_getD, List.getElem?_eq_getElem (by rw [HRL.out]; exact hql)]; rfl
                    rw [hz] at c0
                    have hpq : pre R (q + 1) = pre R q + R.getD (q % k) 0 := by show pre R q + R.getD (q % R.length) 0 = _; rw [HRL.out]
                    have hsucc := dashTo_succ R f2 ps q
                    have hdl := dashAt_len R f2 ps q
                    have hnn := HRR.out.nonnegP q
                    obtain ⟨z, hzz⟩ : ∃ z, z = R.getD (q % k) 0 := ⟨_, rfl⟩
                    rw [← hzz] at c0 hg hpq
                    obtain ⟨s, hs⟩ : ∃ s, s = pre R q - f2 := ⟨_, rfl⟩
                    obtain ⟨e, he⟩ : ∃ e, e = s + z := ⟨_, rfl⟩
                    have hda : dashAt R f2 ps q = if q % 2 = 0 ∧ 0 < N ∧ s < N ∧ (0 < e ∨ (e = 0 ∧ s = 0)) then partW ps (max s 0) (min e N) else [] := by
                      unfold dashAt
                      have h1 : pre R (q + 1) - f2 = e := by omega
                      rw [h1, ← hs, HN.out]
                    replace c0 := (later_cell hbi hbR).trans c0
                    have hqr : ((q : Int)).tmod (k : Int) = ((q % k : Nat) : Int) := by rw [Int.tmod_eq_emod_of_nonneg (by omega)]; rfl
                    have hqr2 : (q : Int) % (k : Int) = ((q % k : Nat) : Int) := rfl
                    have hr00 : ((k : Int) == 0) = false := by simp; omega
                    have hsb : s < N := by omega
                    have hsl : -1500000 ≤ s := by omega
                    have HDA := Lib.hid hda
                    have HSU := Lib.hid hsucc
                    have HPQ := Lib.hid hpq
                    have HSS2 := Lib.hid hs
                    have HEE := Lib.hid he
                    have HHH := Lib.hid hzz
                    rw [← hs]
                    clear hda hsucc hpq hs he hzz hz hqr2
                    obtain ⟨dr, hdr⟩ : ∃ dr : Bool, dr = decide (q % 2 = 0 ∧ (0 < e ∨ (e = 0 ∧ s = 0))) := ⟨_, rfl⟩
                    have HDR := Lib.hid hdr
                    clear hdr
                    go_upto_region 26 with (fail)
                    rw [HEE.out.symm]
                    go_cut [19, 111] (fun s19 sb wx => s19 = .int .i64 e ∧ sb = .bool dr ∧ wx = wr)
                    case first =>
                      go_wp2
                      all_goals
                        go_meet
                        refine ⟨by first | rfl | (congr 1; omega), congrArg Value.bool ?_, rfl⟩
                        rw [HDR.out, Bool.eq_iff_iff]
                        simp only [decide_eq_true_eq, true_iff, Bool.false_eq_true, false_iff, beq_iff_eq]
                        omega
                    case rest =>
                      obtain ⟨rfl, rfl, rfl⟩ := hcut
                      have j0 : wc.cell? ⟨w4.heap.size, 0, none⟩ = some (.slice Ap p cp) := (hmdi.cell (by omega) hz5).trans k0
                      have j1 : wc.cell? ⟨w4.heap.size, 1, none⟩ = some (.slice Ae p ce) := (hmdi.cell (by omega) hz5).trans k1
                      go_upto_if 111 with (fail)
                      go_cut [12] (fun s12 wx => ∃ (mm' : Nat) (A' : Option Addr) (c' : Nat), s12 = .slice A' mm' c' ∧ Below w3.heap.size w3 wx ∧ mm' ≤ 700 ∧ Mid wo.heap.size w5.heap.size w5 wx ∧ Off wo.heap.size w5.heap.size (.slice A' mm' c') ∧
                        wx.ownsRow w3.heap.size 63 5 (.slice A' mm' c') mm' (sgs ((cs.take j).flatMap (dashC on f) ++ dashTo R f2 ps (q + 1))))
                      case first =>
                        cases hdrv : dr
                        · have hnone : dashAt R f2 ps q = [] := by
                            rw [HDA.out, if_neg]
                            intro hh
                            have := HDR.out
                            rw [hdrv, eq_comm, decide_eq_false_iff_not] at this
                            exact this ⟨hh.1, hh.2.2.2⟩
                          have HNO := Lib.hid hnone
                          clear hnone hdrv
                          go_wp2
                          go_meet
                          exact ⟨mm, A6, c6, rfl, hbi, by omega, hmdi, hoffi, by rw [HSU.out, HNO.out, List.append_nil]; exact howni⟩
                        · have hyes : dashAt R f2 ps q = partW ps (max s 0) (min e N) ∧ (0 < e ∨ (e = 0 ∧ s = 0)) := by
                            have := HDR.out
                            rw [hdrv, eq_comm, decide_eq_true_eq] at this
                            rw [HDA.out, if_pos ⟨this.1, by omega, by omega, this.2⟩]
                            exact ⟨rfl, this.2⟩
                          obtain ⟨hyes, hee⟩ := hyes
                          have he0 : 0 ≤ e := by omega
                          have HYE := Lib.hid hyes
                          have hwc := hway5.mid hmdi HAB'.out
                          have hp0 : 0 < p := by
                            rcases Nat.eq_zero_or_pos p with h1 | h1
                            · have h2 : ps = [] := List.eq_nil_of_length_eq_zero (by rw [HP.out]; exact h1)
                              have h3 := HN.out
                              rw [h2] at h3; simp only [sumL] at h3; omega
                            · exact h1
                          obtain ⟨dl, hdlen⟩ : ∃ dl, (dashAt R f2 ps q).length = dl := ⟨_, rfl⟩
                          rw [hdlen, HP.out] at hdl
                          have HDL := Lib.hid hdlen
                          have hNs : N = sumL ps := HN.out.symm
                          have HNS := Lib.hid hNs
                          clear hyes hdrv hee hdlen hNs
                          go_wp2_with fail
                          all_goals
                            refine (part_is Ap Ae p cp ce dl ps _ _ (max s 0) (min e N) (dashAt R f2 ps q) _ hwc hp0 (by omega) (by rw [← HNS.out]; omega) (by omega) (by rw [← HNS.out]; omega) (by omega) (by omega) HYE.out HDL.out).mono ?_
                            rintro e' w6 ⟨A7, c7, rfl, hown7, hb6⟩
                            have hbi6 := btr hbi hb6
                            have hsz6 := hbi6.size
                            go_wp2_with (at_builtin; refine wpList_app rfl _ _ 24 rfl w3.heap.size sgT2 rfl (own_below howni hb6) (sgs (dashAt R f2 ps q)) rfl (own_sl hown7) (oneCell_sgs _) (by omega) hsz6 ?_; intro A8 c8 w8 hown8 hg8 hat8)
                            go_meet
                            exact ⟨mm + dl, A8, c8, rfl, grown_below hbi6 hg8 (own_below howni hb6), by omega, (hmdi.bel hb6).grown hoffi hg8, hoffi.next hat8 ((hmdi.bel hb6).1), by rw [HSU.out, ← List.append_assoc, sgs_app]; exact hown8⟩
                      case rest =>
                        obtain ⟨m7, A7, c7, rfl, hb7, hm7, hmd7, hoff7, hown7⟩ := hcut
                        by_cases hov : 300 < m7
                        · have hcut2 : cutL on f l = ([], 5) := by
                            refine cutL_over (k := j) (j := q + 1) (c := ct) hr.ne hr (by rw [HCS.out, List.getElem?_eq_getElem hjl, HCT.out]) ?_
                            have h1 := (own_sl hown7).sglen
                            rw [HCS.out, ← HF2R.out, ← hre.out, HPS.out, h1]; exact hov
                          have HCUT := Lib.hid hcut2
                          clear hcut2
                          go_wp2
                          try rw [Exit.noGoto_ret]
                          go_ret2
                          rw [HCUT.out]
                          exact ⟨none, 0, rfl, own_nil, btr B3 hb7⟩
                        · have hnx : pre R (q + 1) - f2 = e := by rw [HPQ.out, HEE.out, HSS2.out]; omega
                          have HNX := Lib.hid hnx
                          have HM7 : Hid (m7 ≤ 300) := (by omega : m7 ≤ 300)
                          have HE7 : Hid (e ≤ N + 32767) := (by have := HEE.out; omega : e ≤ N + 32767)
                          have HLB : Hid (q < bnd R f2 N) := hlb
                          clear hnx
                          go_wp2
                          go_roundw
                          case rel => exact ⟨q + 1, m7, A7, c7, rfl, by rw [HNX.out], by go_num, hb7, HM7.out, hmd7, hoff7, by rw [HNX.out]; exact HE7.out, hown7⟩
                          case measure => have := HLB.out; simp [intOf]; omega
            · obtain rfl : j = nc := by omega
              have htk : cs.take j = cs := List.take_of_length_le (by rw [HNC.out]; omega)
              rw [htk] at hown
              have hml : (dashL on f l).length = m := by unfold dashL; rw [HCS.out]; exact (own_sl hown).sglen
              have hall := cutL_all (f := f) (l := l) hr.ne (by rw [hml]; exact hm3)
              have HALL := Lib.hid hall
              have HML := Lib.hid hml
              have hown' : wo.ownsRow w3.heap.size 63 5 (.slice A4 m c4) m (sgs (dashL on f l)) := by unfold dashL; rw [HCS.out]; exact hown
              clear htk hall hml hown
              go_wp2
              go_ret2
              rw [HALL.out]
              refine ⟨A4, c4, by simp only [HML.out]; rfl, ?_, btr B3 hbo⟩
              simp only [HML.out]
              exact own_mono hown' B3.size
end Go.Proofs.YtdfkbbcoolgfiaaGreat
