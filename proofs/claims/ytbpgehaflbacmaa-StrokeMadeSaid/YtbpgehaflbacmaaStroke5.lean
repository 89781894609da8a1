/- stroke.plain, all, May, In. -/
import Derived.Test.YtbpgehaflbacmaaStroke4
import Derived.Test.YtbpgehaflbacmaaAllP
import Derived.Test.YtbpgehaflbacmaaCts
namespace Go.Proofs.Ytbpgehaflbacmaa
open Go.RowKit

theorem plain_no {l : List Sg} {k : Nat} (hk : k < l.length) (h : (l[k].kind == 3) = true) : plainB l = false := by
  cases hp : plainB l
  · rfl
  · exact absurd (by simpa using h) ((plainB_iff.1 hp).2 _ (List.getElem_mem hk))
theorem plain_yes {l : List Sg} (h : ∀ s ∈ l, s.kind ≠ 3) : plainB l = mayB l := by
  cases hm : mayB l
  · unfold plainB; rw [hm, Bool.and_false]
  · exact plainB_iff.2 ⟨hm, h⟩
theorem stroke_plain_any (A : Option Addr) (n c : Nat) (l : List Sg) (w : World) (hm : n ≤ 1000000) (h : Sl w 5 A n (sgs l)) :
    Calls Try.prog 17 #[.slice A n c] w fun e w' => e = .returned (.bool (plainB l)) ∧ Below w.heap.size w w' := by
  have hl := h.sglen
  have HL := Lib.hid hl
  go_enter Try.func17, Try.ntmps17
  go_wp2
  go_loopw [7] (fun i wr => ∃ k : Nat, k ≤ n ∧ i = .int .i64 k ∧ Below w.heap.size w wr ∧ Hid (∀ s ∈ l.take k, s.kind ≠ 3)) (fun i _ => n - (intOf i).toNat)
  case atStart => exact ⟨0, by omega, rfl, Below.refl _ _, fun s hs => by simp at hs⟩
  case round =>
    obtain ⟨k, hk, rfl, hbw, hno⟩ := hrel
    by_cases hlt : k < n
    · have hkl : k < l.length := by omega
      obtain ⟨b, off, rfl, hbl, c0, c1, c2, c3, c4⟩ := (h.below hbw).sg k hlt hkl
      have hpn := plain_no hkl
      have hnx : l[k].kind ≠ 3 → ∀ s ∈ l.take (k + 1), s.kind ≠ 3 := fun h3 s hs => by
        rw [List.take_succ_eq_append_getElem hkl, List.mem_append, List.mem_singleton] at hs
        rcases hs with hs | rfl
        · exact hno.out s hs
        · exact h3
      obtain ⟨sk, hsk⟩ : ∃ s, s = l[k] := ⟨_, rfl⟩
      rw [← hsk] at c0 c1 c2 c3 c4 hpn hnx
      have HPN := Lib.hid hpn
      have HNX := Lib.hid hnx
      clear hsk hpn hnx hno
      by_cases h3 : sk.kind = 3
      · have g3 : (sk.kind == 3) = true := by simp [h3]
        have hpf := HPN.out g3
        have HPF := Lib.hid hpf
        clear hpf h3
        go_wp2
        try rw [Exit.noGoto_ret]
        go_ret
        exact ⟨ret_b HPF.out.symm, bal hbw _⟩
      · have g3 : (sk.kind == 3) = false := by simp [h3]
        have hq := HNX.out h3
        have HQ := Lib.hid hq
        clear hq h3
        go_wp2
        go_roundw
        case rel => exact ⟨k + 1, by omega, by go_num, bal hbw _, HQ.out⟩
        case measure => simp [intOf]; omega
    · obtain rfl : k = n := by omega
      have hall := hno.out
      rw [List.take_of_length_le (by omega)] at hall
      have hpy := plain_yes hall
      have HPY := Lib.hid hpy
      clear hall hpy hno
      go_wp2_with (go_at_call 28; refine (path_May_any _ _ _ l _ hm (h.below hbw)).mono ?_; rintro e w2 ⟨rfl, hb2⟩)
      go_ret
      exact ⟨ret_b HPY.out.symm, btr hbw hb2⟩

theorem shL_bd (s : Sy) (cs : List Ct) (h : ∀ c ∈ cs, c.es.length ≤ 300) : (cs.flatMap (shpC s)).length ≤ 1204 * cs.length := by
  induction cs with
  | nil => simp
  | cons c cs ih =>
    have h1 := ih (fun d hd => h d (by simp [hd]))
    have h2 := shC_len s c
    have h3 := piecesC_len c
    have h4 := h c (by simp)
    rw [List.flatMap_cons, List.length_append, List.length_cons]; omega

set_option maxRecDepth 100000 in
set_option maxHeartbeats 1000000 in
theorem all_any (A : Option Addr) (n c : Nat) (l : List Sg) (s : Sy) (L : List Shp) (m : Nat) (w : World) (hn : n ≤ 300) (h : Sl w 5 A n (sgs l)) (hs : shL l s = L) (hm : L.length = m) :
    Calls Try.prog 18 #[.slice A n c, syc s] w
      fun e w' => ∃ (A' : Option Addr) (c' : Nat), e = .returned (.slice A' m c') ∧ Sl w' 1 A' m (shps L) ∧ Below w.heap.size w w' := by
  have hl := h.sglen
  obtain ⟨cs, hcs⟩ : ∃ cs, ctsL l = cs := ⟨_, rfl⟩
  have hcl : cs.length ≤ 300 := by rw [← hcs]; have := cts_len l; omega
  have hes : ∀ c ∈ cs, c.es.length ≤ 300 := fun c hc => by rw [← hcs] at hc; have := cts_es l c hc; omega
  obtain ⟨nc, hnc⟩ : ∃ nc, cs.length = nc := ⟨_, rfl⟩
  rw [hnc] at hcl
  have hs2 : cs.flatMap (shpC s) = L := by rw [← hs, ← hcs]; rfl
  have HCS := Lib.hid hcs
  have HES := Lib.hid hes
  have HNC := Lib.hid hnc
  have HSL := Lib.hid hs2
  have HM := Lib.hid hm
  clear hcs hes hnc hs hs2 hm hl
  unfold syc
  have hBs := bal (Below.refl w.heap.size w) (.cells #[.int .i64 s.wide, .int .i64 s.cap, .int .i64 s.join] 27)
  have s0 := new_cell (w := w) (t := 27) #[.int .i64 s.wide, .int .i64 s.cap, .int .i64 s.join] 0
  have s1 := new_cell (w := w) (t := 27) #[.int .i64 s.wide, .int .i64 s.cap, .int .i64 s.join] 1
  have s2 := new_cell (w := w) (t := 27) #[.int .i64 s.wide, .int .i64 s.cap, .int .i64 s.join] 2
  have hz0 : w.heap.size < (w.alloc (.cells #[.int .i64 s.wide, .int .i64 s.cap, .int .i64 s.join] 27)).heap.size := by simp
  go_enter Try.func18, Try.ntmps18
  go_wp2_with fail
  refine (Contours_any A n c l cs _ (by omega) (h.below hBs) HCS.out).mono ?_; rintro e w3 ⟨A3, c3, rfl, hc3, hb3⟩
  rw [HNC.out] at hc3 ⊢
  have hB3 := btr hBs hb3
  have hz3 := Nat.lt_of_lt_of_le hz0 hb3.size
  replace s0 := (later_cell hb3 hz0).trans s0
  replace s1 := (later_cell hb3 hz0).trans s1
  replace s2 := (later_cell hb3 hz0).trans s2
  clear hb3 hBs h
  go_wp2
  go_loopw [5, 11] (fun out i wr => ∃ (j m : Nat) (A' : Option Addr) (c' : Nat), j ≤ nc ∧ out = .slice A' m c' ∧ i = .int .i64 (j : Int) ∧ Below w3.heap.size w3 wr ∧ m ≤ 1204 * j ∧
    wr.ownsRow w3.heap.size 65 1 (.slice A' m c') m (shps ((cs.take j).flatMap (shpC s)))) (fun _ i _ => nc - (intOf i).toNat)
  case atStart => exact ⟨0, 0, none, 0, by omega, rfl, rfl, Below.refl _ _, by omega, own_nil⟩
  case round =>
    obtain ⟨wo, rfl⟩ : ∃ wo : World, wo = wr := ⟨_, rfl⟩
    obtain ⟨j, m', A4, c4, hj, rfl, rfl, hbo, hm3, hown⟩ := hrel
    have y0 := (later_cell hbo hz3).trans s0
    have y1 := (later_cell hbo hz3).trans s1
    have y2 := (later_cell hbo hz3).trans s2
    have hzo := Nat.lt_of_lt_of_le hz3 hbo.size
    by_cases hlt : j < nc
    · have hjl : j < cs.length := by rw [HNC.out]; exact hlt
      obtain ⟨b, off, AE, cE, rfl, hbl, d0, d1, d2, d3, hse⟩ := hc3.get j hlt hjl
      have hej := HES.out _ (List.getElem_mem hjl)
      have hft := flat_take (shpC s) cs j hjl
      obtain ⟨ct, hct⟩ : ∃ ct, ct = cs[j] := ⟨_, rfl⟩
      rw [← hct] at d0 d1 d2 d3 hse hej hft
      obtain ⟨u, hu⟩ : ∃ u, ct.es.length = u := ⟨_, rfl⟩
      rw [hu] at d2 hse hej
      replace d0 := (later_cell hbo hbl).trans d0
      replace d1 := (later_cell hbo hbl).trans d1
      replace d2 := (later_cell hbo hbl).trans d2
      replace d3 := (later_cell hbo hbl).trans d3
      have hse2 := hse.below hbo
      obtain ⟨S, hS⟩ : ∃ S, shpC s ct = S := ⟨_, rfl⟩
      obtain ⟨sl, hsl⟩ : ∃ sl, S.length = sl := ⟨_, rfl⟩
      have hsb : sl ≤ 1204 := by rw [← hsl, ← hS]; have := shC_len s ct; have := piecesC_len ct; omega
      rw [hS] at hft
      have HFT := Lib.hid hft
      have HS := Lib.hid hS
      have HSL2 := Lib.hid hsl
      clear hft hu hct hse hS hsl
      go_wp2_with fail
      refine (shapes_any ct AE u cE s S sl _ (by omega) (hse2.below (bal (Below.refl _ _) _)) HS.out HSL2.out).mono ?_
      rintro e w4 ⟨Ap, cp, rfl, hs4, hb4⟩
      have hb04 := btr (bal (Below.refl wo.heap.size wo) _) hb4
      have hb34 := btr hbo hb04
      have hown4 := own_below hown hb04
      clear hb4 hb04
      go_wp2_with (at_builtin; refine wpList_app rfl _ _ 49 rfl w3.heap.size shpT rfl hown4 (shps S) rfl hs4 (oneCell_shps _) (by omega) hb34.size ?_; intro A8 c8 w8 hown8 hg8 hat8)
      go_roundw
      case rel => exact ⟨j + 1, m' + sl, A8, c8, by omega, rfl, by go_num, grown_below hb34 hg8 hown4, by omega, by rw [HFT.out, shps_app]; exact hown8⟩
      case measure => simp [intOf]; omega
    · obtain rfl : j = nc := by omega
      have htk : cs.take j = cs := List.take_of_length_le (by rw [HNC.out]; omega)
      rw [htk, HSL.out] at hown
      obtain rfl : m' = m := by rw [← HM.out]; have := (own_sl hown).1; rw [shps_len] at this; omega
      clear htk
      go_wp2
      go_ret
      exact ⟨A4, c4, rfl, own_sl hown, btr hB3 hbo⟩

theorem stroke_May_any (s : Sy) (w : World) : Calls Try.prog 9 #[syc s] w fun e w' => e = .returned (.bool (mayS s)) ∧ Below w.heap.size w w' := by
  unfold syc
  have hd : mayS s = (decide (0 ≤ s.wide) && decide (s.wide ≤ 2048) && decide (0 ≤ s.cap) && decide (s.cap ≤ 2) && decide (0 ≤ s.join) && decide (s.join ≤ 1)) := rfl
  obtain ⟨r, hr⟩ : ∃ r, r = mayS s := ⟨_, rfl⟩
  rw [← hr] at hd ⊢
  have HD := Lib.hid hd
  clear hd hr
  go_enter Try.func9, Try.ntmps9
  by_cases h1 : 0 ≤ s.wide <;> by_cases h2 : s.wide ≤ 2048 <;> by_cases h3 : 0 ≤ s.cap <;> by_cases h4 : s.cap ≤ 2 <;> by_cases h5 : 0 ≤ s.join <;> by_cases h6 : s.join ≤ 1
  all_goals first
    | (exfalso; omega)
    | (have hd := HD.out
       simp [h1, h2, h3, h4, h5, h6] at hd
       have HD2 := Lib.hid hd
       clear hd
       go_wp2
       go_ret
       exact ⟨ret_b HD2.out.symm, bal (Below.refl _ _) _⟩)

theorem shAt_ok (shut : Bool) (s : Sy) (ps : List Ed) (k : Nat) (e : Ed) (he : edOK e = true) (hw : WideOK s.wide) : ∀ h ∈ shAt shut s ps k e, ShOK h := by
  obtain ⟨a, b, _, _, c, d, _⟩ := edOK_iff.1 he
  have ca : co e.x0 = true := co_iff.2 a
  have cb : co e.y0 = true := co_iff.2 b
  have cc : co e.x1 = true := co_iff.2 c
  have cd : co e.y1 = true := co_iff.2 d
  intro h hm
  unfold shAt at hm
  rw [List.mem_cons, List.mem_append] at hm
  rcases hm with rfl | hm | hm
  · exact ⟨he, hw⟩
  · split at hm
    · rw [List.mem_singleton] at hm; subst hm; exact ⟨ca, cb, hw⟩
    · simp at hm
  · split at hm
    · rw [List.mem_singleton] at hm; subst hm; exact ⟨cc, cd, hw⟩
    · simp at hm
theorem shC_ok {c : Ct} (hg : GoodC c) (hb : ∀ e ∈ c.es, e.bent = false) {s : Sy} (hw : WideOK s.wide) : ∀ h ∈ shpC s c, ShOK h := by
  intro h hm
  unfold shpC at hm
  split at hm
  · split at hm
    · unfold dotS at hm
      split at hm
      · rw [List.mem_singleton] at hm; subst hm; exact ⟨hg.2.2.1, hg.2.2.2, hw⟩
      · split at hm
        · rw [List.mem_singleton] at hm; subst hm; exact ⟨hg.2.2.1, hg.2.2.2, hw⟩
        · simp at hm
    · simp at hm
  · rw [mem_shTo _ _ _ _ _ (Nat.le_refl _)] at hm
    obtain ⟨i, hi, _, hm⟩ := hm
    exact shAt_ok _ s _ i _ (piecesC_ok hg hb _ (List.getElem_mem hi)).1.2 hw h hm
theorem shL_ok {l : List Sg} (hb : ∀ t ∈ l, t.kind ≠ 3) {s : Sy} (hw : WideOK s.wide) : ∀ h ∈ shL l s, ShOK h := by
  intro h hm
  unfold shL at hm
  rw [List.mem_flatMap] at hm
  obtain ⟨c, hc, hm⟩ := hm
  exact shC_ok (ctsL_good l c hc) (ctsL_straight hb c hc) hw h hm

set_option maxRecDepth 100000 in
set_option maxHeartbeats 1000000 in
theorem stroke_In_any (A : Option Addr) (n c : Nat) (l : List Sg) (s : Sy) (x y : Int) (w : World) (hn : n ≤ 1000000) (h : Sl w 5 A n (sgs l)) :
    Calls Try.prog 11 #[.slice A n c, syc s, .int .i64 x, .int .i64 y] w fun e w' => e = .returned (.bool (inL l s x y)) ∧ Below w.heap.size w w' := by
  obtain ⟨r, hr⟩ : ∃ r, r = inL l s x y := ⟨_, rfl⟩
  rw [← hr]
  have hr2 : r = (plainB l && mayS s && (decide (-8191 ≤ x) && decide (x ≤ 8191)) && (decide (-8191 ≤ y) && decide (y ≤ 8191)) && covL l s x y) := hr
  have hl := h.sglen
  have HL := Lib.hid hl
  have HR := Lib.hid hr2
  clear hr hr2 hl
  have hBs := bal (Below.refl w.heap.size w) (.cells #[.int .i64 s.wide, .int .i64 s.cap, .int .i64 s.join] 27)
  have s0 := new_cell (w := w) (t := 27) #[.int .i64 s.wide, .int .i64 s.cap, .int .i64 s.join] 0
  have s1 := new_cell (w := w) (t := 27) #[.int .i64 s.wide, .int .i64 s.cap, .int .i64 s.join] 1
  have s2 := new_cell (w := w) (t := 27) #[.int .i64 s.wide, .int .i64 s.cap, .int .i64 s.join] 2
  have hz0 : w.heap.size < (w.alloc (.cells #[.int .i64 s.wide, .int .i64 s.cap, .int .i64 s.join] 27)).heap.size := by simp
  unfold syc
  go_enter Try.func11, Try.ntmps11
  go_wp2_with fail
  refine (stroke_plain_any A n c l _ hn (h.below hBs)).mono ?_; rintro e w1 ⟨rfl, hb1⟩
  have hB1 := btr hBs hb1
  have hz1 := Nat.lt_of_lt_of_le hz0 hb1.size
  replace s0 := (later_cell hb1 hz0).trans s0
  replace s1 := (later_cell hb1 hz0).trans s1
  replace s2 := (later_cell hb1 hz0).trans s2
  clear hb1 hBs
  cases hpl : plainB l
  · have hr := HR.out
    rw [hpl] at hr
    simp only [Bool.false_and] at hr
    have HR2 := Lib.hid hr
    clear hr hpl
    go_wp2
    go_ret
    exact ⟨ret_b HR2.out.symm, hB1⟩
  · have hPL := plainB_iff.1 hpl
    have hr := HR.out
    rw [hpl, Bool.true_and] at hr
    have HR2 := Lib.hid hr
    have HPM := Lib.hid hPL.1
    have HPB := Lib.hid hPL.2
    clear hr hpl hPL HR
    go_wp2_with fail
    refine (stroke_May_any s _).mono ?_; rintro e w2 ⟨rfl, hb2⟩
    have hB2 := btr hB1 hb2
    replace s0 := (later_cell hb2 hz1).trans s0
    replace s1 := (later_cell hb2 hz1).trans s1
    replace s2 := (later_cell hb2 hz1).trans s2
    have hz2 := Nat.lt_of_lt_of_le hz1 hb2.size
    clear hb2 hB1
    cases hms : mayS s
    · have hr := HR2.out
      rw [hms] at hr
      simp only [Bool.false_and] at hr
      have HR3 := Lib.hid hr
      clear hr hms
      go_wp2
      go_ret
      exact ⟨ret_b HR3.out.symm, hB2⟩
    · have hr := HR2.out
      rw [hms, Bool.true_and] at hr
      have hwd : WideOK s.wide := ⟨(mayS_iff.1 hms).1, (mayS_iff.1 hms).2.1⟩
      have HWD := Lib.hid hwd
      have HR3 := Lib.hid hr
      clear hr hms HR2 hwd
      by_cases hx : -8191 ≤ x ∧ x ≤ 8191 ∧ -8191 ≤ y ∧ y ≤ 8191
      · obtain ⟨x0, x1, y0, y1⟩ := hx
        have hr := HR3.out
        simp only [x0, x1, y0, y1, decide_true, Bool.true_and] at hr
        have HR4 := Lib.hid hr
        clear hr
        obtain ⟨L, hL⟩ : ∃ L, shL l s = L := ⟨_, rfl⟩
        obtain ⟨m, hm⟩ : ∃ m, L.length = m := ⟨_, rfl⟩
        have hok : ∀ h ∈ L, ShOK h := by rw [← hL]; exact shL_ok HPB.out HWD.out
        have hn3 : n ≤ 300 := by rw [← HL.out]; exact (mayB_from HPM.out).2
        have hm4 : m ≤ 1000000 := by
          rw [← hm, ← hL]
          have h1 := shL_bd s (ctsL l) (fun c hc => by have := cts_es l c hc; have := HL.out; omega)
          have h2 := cts_len l
          have h3 := HL.out
          unfold shL; omega
        have hcv : r = L.any fun h => covS h x y := by rw [HR4.out, ← hL]; rfl
        have hcx : co x = true := co_iff.2 ⟨x0, x1⟩
        have hcy : co y = true := co_iff.2 ⟨y0, y1⟩
        have HCV := Lib.hid hcv
        have HSL := Lib.hid hL
        have HM := Lib.hid hm
        have HOK := Lib.hid hok
        clear hcv hL hm hok HR3
        go_wp2_with fail
        refine (all_any A n c l s L m _ hn3 (h.below hB2) HSL.out HM.out).mono ?_
        rintro e w3 ⟨A3, c3, rfl, hs3, hb3⟩
        go_wp2_with fail
        refine (covered_any A3 m c3 L x y _ hm4 hs3 HOK.out hcx hcy).mono ?_
        rintro e w4 ⟨rfl, hb4⟩
        go_wp2
        go_ret
        exact ⟨ret_b HCV.out.symm, btr (btr hB2 hb3) hb4⟩
      · have hr : r = false := by
          rw [HR3.out, Bool.and_eq_false_iff]
          left
          rw [Bool.eq_false_iff]
          simp only [ne_eq, Bool.and_eq_true, decide_eq_true_eq]
          omega
        have HR4 := Lib.hid hr
        have hcs : x < -8191 ∨ (¬ x < -8191 ∧ 8191 < x) ∨ (¬ x < -8191 ∧ ¬ 8191 < x ∧ y < -8191) ∨ (¬ x < -8191 ∧ ¬ 8191 < x ∧ ¬ y < -8191 ∧ 8191 < y) := by omega
        clear hr hx HR3
        rcases hcs with q | ⟨q1, q⟩ | ⟨q1, q2, q⟩ | ⟨q1, q2, q3, q⟩
        all_goals
          go_wp2
          go_ret
          exact ⟨ret_b HR4.out.symm, hB2⟩
end Go.Proofs.Ytbpgehaflbacmaa
