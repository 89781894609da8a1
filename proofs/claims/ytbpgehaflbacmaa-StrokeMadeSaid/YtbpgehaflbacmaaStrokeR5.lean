/- The reference's Straight, May and In. -/
import Derived.Test.YtbpgehaflbacmaaStrokeR4
import Derived.Test.YtbpgehaflbacmaaStroke5
import Derived.Test.YtbpgehaflbacmaaRefCts
namespace Go.Proofs.Ytbpgehaflbacmaa
open Go.RowKit Go.BigFrame

set_option maxHeartbeats 1000000 in
theorem ref_Straight_all (A : Option Addr) (n c : Nat) (l : List Sg) (w : World) (hm : n ≤ 1000000) (h : Sl w 5 A n (sgs l)) :
    Calls Try.prog 21 #[.slice A n c] w fun e w' => e = .returned (.bool (plainB l)) ∧ Below w.heap.size w w' := by
  have hl := h.sglen
  have HL := Lib.hid hl
  go_enter Try.func21, Try.ntmps21
  go_wp2_with fail
  refine (ref_May_any _ _ _ l _ hm h).mono ?_; rintro e w2 ⟨rfl, hb2⟩
  have h2 := h.below hb2
  rcases Bool.eq_false_or_eq_true (mayB l) with hok | hok
  · have HOK := Lib.hid hok
    rw [hok]
    clear hok
    go_wp2
    go_loop [3] (fun i => ∃ k : Nat, k ≤ n ∧ i = .int .i64 k ∧ Hid (∀ s ∈ l.take k, s.kind ≠ 3)) (fun i => n - (intOf i).toNat)
    case atStart => exact ⟨0, by omega, rfl, fun s hs => by simp at hs⟩
    case round =>
      obtain ⟨k, hk, rfl, hno⟩ := hrel
      by_cases hlt : k < n
      · have hkl : k < l.length := by omega
        obtain ⟨b, off, rfl, hbl, c0, c1, c2, c3, c4⟩ := h2.sg k hlt hkl
        have hpn := plain_no hkl
        have hnx : l[k].kind ≠ 3 → ∀ s ∈ l.take (k + 1), s.kind ≠ 3 := fun h3 s hs => by
          rw [List.take_succ_eq_append_getElem hkl, List.mem_append, List.mem_singleton] at hs
          rcases hs with hs | rfl
          · exact hno.out s hs
          · exact h3
        obtain ⟨sk, hsk⟩ : ∃ s, s = l[k] := ⟨_, rfl⟩
        rw [← hsk] at c0 hpn hnx
        have HPN := Lib.hid hpn
        have HNX := Lib.hid hnx
        clear hsk hpn hnx hno c1 c2 c3 c4
        by_cases h3 : sk.kind = 3
        · have g3 : (sk.kind == 3) = true := by simp [h3]
          have hpf := HPN.out g3
          have HPF := Lib.hid hpf
          clear hpf h3
          go_wp2
          go_ret
          exact ⟨ret_b HPF.out.symm, hb2⟩
        · have g3 : (sk.kind == 3) = false := by simp [h3]
          have hq := HNX.out h3
          have HQ := Lib.hid hq
          clear hq h3
          go_wp2
          go_round
          case rel => exact ⟨k + 1, by omega, by go_num, HQ.out⟩
          case measure => simp [intOf]; omega
      · obtain rfl : k = n := by omega
        have hall := hno.out
        rw [List.take_of_length_le (by omega)] at hall
        have hpy : plainB l = true := by rw [plain_yes hall]; exact HOK.out
        have HPY := Lib.hid hpy
        clear hall hpy hno
        go_wp2
        go_ret
        exact ⟨ret_b HPY.out.symm, hb2⟩
  · have hpf : plainB l = false := by unfold plainB; rw [hok, Bool.and_false]
    have HPF := Lib.hid hpf
    rw [hok]
    clear hok hpf
    go_wp2
    go_ret
    exact ⟨ret_b HPF.out.symm, hb2⟩
set_option maxHeartbeats 2000000 in
theorem ref_MaySt_any (s : Sy) (w : World) : Calls Try.prog 22 #[.agg #[.int .i64 s.wide, .int .i64 s.cap, .int .i64 s.join]] w fun e w' => e = .returned (.bool (mayS s)) ∧ Below w.heap.size w w' := by
  have hd : mayS s = (decide (0 ≤ s.wide) && decide (s.wide ≤ 2048) && decide (0 ≤ s.cap) && decide (s.cap ≤ 2) && decide (0 ≤ s.join) && decide (s.join ≤ 1)) := rfl
  obtain ⟨r, hr⟩ : ∃ r, r = mayS s := ⟨_, rfl⟩
  rw [← hr] at hd ⊢
  have HD := Lib.hid hd
  clear hd hr
  go_enter Try.func22, Try.ntmps22
  by_cases h1 : 0 ≤ s.wide <;> by_cases h2 : s.wide ≤ 2048 <;> by_cases h3 : 0 ≤ s.cap <;> by_cases h4 : s.cap ≤ 2 <;> by_cases h5 : 0 ≤ s.join <;> by_cases h6 : s.join ≤ 1
  all_goals first
    | (exfalso; omega)
    | (have hd := HD.out
       simp [h1, h2, h3, h4, h5, h6] at hd
       have HD2 := Lib.hid hd
       clear hd
       go_wp2
       go_ret
       exact ⟨ret_b HD2.out.symm, bal (Below.refl _ _) _⟩)

theorem any_cov {l : List Sg} {s : Sy} {x y : Int} {cs : List Ct} (hcs : ctsL l = cs) : covL l s x y = true ↔ ∃ (i : Nat) (h : i < cs.length), CovC cs[i] s x y := by
  rw [covL_iff, hcs]
  constructor
  · rintro ⟨c, hc, h⟩
    obtain ⟨i, hi, rfl⟩ := List.getElem_of_mem hc
    exact ⟨i, hi, h⟩
  · rintro ⟨i, hi, h⟩
    exact ⟨_, List.getElem_mem hi, h⟩

set_option maxRecDepth 100000 in
set_option maxHeartbeats 4000000 in
theorem ref_In_any (A : Option Addr) (n c : Nat) (l : List Sg) (wd cp jn x y : Int) (w : World) (hn : n ≤ 1000000) (h : Sl w 5 A n (sgs l)) :
    Calls Try.prog 13 #[.slice A n c, .agg #[.int .i64 wd, .int .i64 cp, .int .i64 jn], .int .i64 x, .int .i64 y] w fun e w' => e = .returned (.bool (inL l ⟨wd, cp, jn⟩ x y)) ∧ Below w.heap.size w w' := by
  obtain ⟨r, hr⟩ : ∃ r, r = inL l ⟨wd, cp, jn⟩ x y := ⟨_, rfl⟩
  rw [← hr]
  have hr2 : r = (plainB l && mayS ⟨wd, cp, jn⟩ && co x && co y && covL l ⟨wd, cp, jn⟩ x y) := hr
  have hl := h.sglen
  have HL := Lib.hid hl
  have HR := Lib.hid hr2
  obtain ⟨w0, hw0⟩ : ∃ w0 : World, w0 = w.alloc (.cells #[.int .i64 wd, .int .i64 cp, .int .i64 jn] 27) := ⟨_, rfl⟩
  have hst : StIn w0 w.heap.size wd cp jn := by rw [hw0]; exact StIn.new _ _ _
  have B0 : Below w.heap.size w w0 := by rw [hw0]; exact bal (Below.refl _ _) _
  have h0 := h.below B0
  clear hr hr2 hl h
  go_enter Try.func13, Try.ntmps13
  go_wp2_with fail
  rw [← hw0]
  clear hw0
  refine (ref_Straight_all A n c l _ hn h0).mono ?_; rintro e w1 ⟨rfl, hb1⟩
  have B1 := btr B0 hb1
  have h1 := h0.below hb1
  have ht1 := hst.below hb1
  have t0 := ht1.c0
  have t1 := ht1.c1
  have t2 := ht1.c2
  have tz := ht1.lt
  clear hb1 h0 hst B0
  rcases Bool.eq_false_or_eq_true (plainB l) with hpl | hpl
  · have hPL := plainB_iff.1 hpl
    have hr := HR.out
    rw [hpl, Bool.true_and] at hr
    have HR2 := Lib.hid hr
    have HPM := Lib.hid hPL.1
    have HPB := Lib.hid hPL.2
    rw [hpl]
    clear hr hpl hPL HR
    go_wp2_with fail
    refine (ref_MaySt_any ⟨wd, cp, jn⟩ _).mono ?_; rintro e w2 ⟨rfl, hb2⟩
    have B2 := btr B1 hb2
    have h2 := h1.below hb2
    have ht2 := ht1.below hb2
    clear hb2 B1 h1 ht1 t0 t1 t2 tz
    rcases Bool.eq_false_or_eq_true (mayS ⟨wd, cp, jn⟩) with hms | hms
    · have hr := HR2.out
      rw [hms, Bool.true_and] at hr
      have hwd : WideOK wd := ⟨(mayS_iff.1 hms).1, (mayS_iff.1 hms).2.1⟩
      have HR3 := Lib.hid hr
      rw [hms]
      clear hr hms HR2
      go_wp2_with fail
      refine (IsCoord_any x _).mono ?_; rintro e w3 ⟨rfl, rfl⟩
      rcases Bool.eq_false_or_eq_true (co x) with hx | hx
      · have hr := HR3.out
        rw [hx, Bool.true_and] at hr
        have HR4 := Lib.hid hr
        rw [hx]
        clear hr HR3
        go_wp2_with fail
        refine (IsCoord_any y _).mono ?_; rintro e w3 ⟨rfl, rfl⟩
        rcases Bool.eq_false_or_eq_true (co y) with hy | hy
        · have hr := HR4.out
          rw [hy, Bool.true_and] at hr
          rw [hy]
          obtain ⟨cs, hcs⟩ : ∃ cs, ctsL l = cs := ⟨_, rfl⟩
          obtain ⟨nc, hnc⟩ : ∃ x, cs.length = x := ⟨_, rfl⟩
          have hn3 : n ≤ 300 := by rw [← HL.out]; exact (mayB_from HPM.out).2
          have hnc3 : nc ≤ 300 := by have := cts_len l; rw [hcs, hnc, HL.out] at this; omega
          have hall : ∀ c ∈ cs, c.es.length ≤ 300 ∧ GoodC c ∧ ∀ e ∈ c.es, e.bent = false := fun c hc => by
            rw [← hcs] at hc
            have := cts_es l c hc
            rw [HL.out] at this
            exact ⟨by omega, ctsL_good l c hc, ctsL_straight HPB.out c hc⟩
          have hrc : r = true ↔ ∃ (i : Nat) (h : i < cs.length), CovC cs[i] ⟨wd, cp, jn⟩ x y := by rw [hr]; exact any_cov hcs
          have HRC := Lib.hid hrc
          have HALL := Lib.hid hall
          have HCS := Lib.hid hcs
          have HNC := Lib.hid hnc
          clear hr HR4 hcs hnc hall hrc
          go_wp2_with fail
          refine (ref_Contours_any A n c l cs _ hn h2 HCS.out).mono ?_; rintro e w4 ⟨A4, c4, rfl, hct, hb4⟩
          have B4 := btr B2 hb4
          have ht4 := ht2.below hb4
          rw [HNC.out] at hct ⊢
          clear hb4 h2 ht2 B2
          go_wp2
          go_loopw [10] (fun i wr => ∃ k : Nat, k ≤ nc ∧ i = .int .i64 (k : Int) ∧ Below w4.heap.size w4 wr ∧ Hid (∀ (i : Nat) (h : i < cs.length), i < k → ¬ CovC cs[i] ⟨wd, cp, jn⟩ x y)) (fun i _ => nc - (intOf i).toNat)
          case atStart => exact ⟨0, by omega, rfl, Below.refl _ _, fun i _ h => absurd h (Nat.not_lt_zero _)⟩
          case round =>
            obtain ⟨k, hk, rfl, hbr, hno⟩ := hrel
            by_cases hlt : k < nc
            · have hkl : k < cs.length := by rw [HNC.out]; exact hlt
              obtain ⟨b, off, Ae, ce, rfl, hb, d0, d1, d2, d3, hsE⟩ := hct.get k hlt hkl
              obtain ⟨ct, hctk⟩ : ∃ ct, ct = cs[k] := ⟨_, rfl⟩
              obtain ⟨hes, hgd, hbt⟩ := HALL.out _ (List.getElem_mem hkl)
              rw [← hctk] at d0 d1 d2 d3 hsE hes hgd hbt
              obtain ⟨q, hq⟩ : ∃ b : Bool, (b = true ↔ CovC ct ⟨wd, cp, jn⟩ x y) := by
                by_cases hh : CovC ct ⟨wd, cp, jn⟩ x y
                · exact ⟨true, by simp [hh]⟩
                · exact ⟨false, by simp [hh]⟩
              have hyes : CovC ct ⟨wd, cp, jn⟩ x y → r = true := fun hh => HRC.out.2 ⟨k, hkl, by rw [← hctk]; exact hh⟩
              have hnx : ¬ CovC ct ⟨wd, cp, jn⟩ x y → Hid (∀ (i : Nat) (h : i < cs.length), i < k + 1 → ¬ CovC cs[i] ⟨wd, cp, jn⟩ x y) := fun hh => Lib.hid (fun i hi hik => by
                rcases Nat.lt_or_ge i k with h1 | h1
                · exact hno.out i hi h1
                · obtain rfl : i = k := by omega
                  rw [← hctk]; exact hh)
              obtain ⟨u, hu⟩ : ∃ u, ct.es.length = u := ⟨_, rfl⟩
              rw [hu] at d2 hsE hes
              have HQ := Lib.hid hq
              have HYES := Lib.hid hyes
              have HNX := Lib.hid hnx
              have HGD := Lib.hid hgd
              have HBT := Lib.hid hbt
              have f0 := fun g : Grown wr => g.cell ((later_cell hbr hb).trans d0) (Nat.lt_of_lt_of_le hb hbr.size)
              have f1 := fun g : Grown wr => g.cell ((later_cell hbr hb).trans d1) (Nat.lt_of_lt_of_le hb hbr.size)
              have f2 := fun g : Grown wr => g.cell ((later_cell hbr hb).trans d2) (Nat.lt_of_lt_of_le hb hbr.size)
              have f3 := fun g : Grown wr => g.cell ((later_cell hbr hb).trans d3) (Nat.lt_of_lt_of_le hb hbr.size)
              have ht5 := ht4.below hbr
              have s0 := fun g : Grown wr => g.cell ht5.c0 ht5.lt
              have s1 := fun g : Grown wr => g.cell ht5.c1 ht5.lt
              have s2 := fun g : Grown wr => g.cell ht5.c2 ht5.lt
              have hE := fun g : Grown wr => (hsE.below hbr).below g.below
              clear hctk hq hyes hnx hgd hbt hu hno d0 d1 d2 d3
              go_wp2_with fail
              refine wp_region_grown (by kernel_rfl) (by kernel_rfl) ?_
              repeat (go_big_quiet_step ((go_at_call 25; with_reducible exact Calls.grown (ref_Covers_any ct Ae u ce wd cp jn x y q _ (by omega) (hE _) HGD.out HBT.out hwd hx hy HQ.out))))
              refine wpQuiet_nil ?_
              intro _ hw'
              obtain ⟨xq, hw''⟩ := hw'
              subst hw''
              cases q
              · go_wp2
                go_roundw
                case rel => exact ⟨k + 1, by omega, by go_num, btr hbr xq.below, HNX.out (fun h => absurd (HQ.out.2 h) (by simp))⟩
                case measure => simp [intOf]; omega
              · go_wp2
                go_ret
                exact ⟨ret_b (HYES.out (HQ.out.1 (by trivial))).symm, btr B4 (btr hbr xq.below)⟩
            · obtain rfl : k = nc := by omega
              have hrf : r = false := by
                cases hh : r
                · rfl
                · obtain ⟨i, hi, hc⟩ := HRC.out.1 hh
                  exact absurd hc (hno.out i hi (by rw [HNC.out] at hi; exact hi))
              have HRF := Lib.hid hrf
              clear hrf hno
              go_wp2
              go_ret
              exact ⟨ret_b HRF.out.symm, btr B4 hbr⟩
        · have hr := HR4.out
          rw [hy, Bool.false_and] at hr
          have HRF := Lib.hid hr
          rw [hy]
          clear hr
          go_wp2
          go_ret
          exact ⟨ret_b HRF.out.symm, B2⟩
      · have hr := HR3.out
        rw [hx, Bool.false_and, Bool.false_and] at hr
        have HRF := Lib.hid hr
        rw [hx]
        clear hr
        go_wp2
        go_ret
        exact ⟨ret_b HRF.out.symm, B2⟩
    · have hr := HR2.out
      rw [hms, Bool.false_and, Bool.false_and, Bool.false_and] at hr
      have HRF := Lib.hid hr
      rw [hms]
      clear hr
      go_wp2
      go_ret
      exact ⟨ret_b HRF.out.symm, B2⟩
  · have hr := HR.out
    rw [hpl, Bool.false_and, Bool.false_and, Bool.false_and, Bool.false_and] at hr
    have HRF := Lib.hid hr
    rw [hpl]
    clear hr hpl
    go_wp2
    go_ret
    exact ⟨ret_b HRF.out.symm, B1⟩
end Go.Proofs.Ytbpgehaflbacmaa
