/- The reference's Covers. -/
import Derived.Test.YtbpgehaflbacmaaStrokeR3
import Derived.Test.YtbpgehaflbacmaaStrokePiecesP
import Derived.Test.YtbpgehaflbacmaaDashR2
namespace Go.Proofs.Ytbpgehaflbacmaa
open Go.RowKit Go.BigFrame

instance (e : Ed) (w x y : Int) : Decidable (OnP e w x y) := by unfold OnP; infer_instance
/-- What the loop over a contour's pieces looks for; what stands at the ends of an open one. -/
def HitP (sh : Bool) (wd jn : Int) (i : Nat) (e : Ed) (x y : Int) : Prop := OnP e wd x y ∨ (jn = 1 ∧ (0 < i ∨ sh = true) ∧ DiscP e.x0 e.y0 wd x y)
def EndsP (wd cp : Int) (a z : Ed) (x y : Int) : Prop := (cp = 1 ∧ (DiscP a.x0 a.y0 wd x y ∨ DiscP z.x1 z.y1 wd x y)) ∨ (cp = 2 ∧ (AheadP a wd x y ∨ BehindP z wd x y))
theorem cov_split {c : Ct} {wd cp jn x y : Int} {ps : List Ed} (hp : piecesC c = ps) {a z : Ed} (ha : ps[0]? = some a) (hz : ps[ps.length - 1]? = some z) :
    CovC c ⟨wd, cp, jn⟩ x y ↔ (∃ (i : Nat) (h : i < ps.length), HitP c.shut wd jn i ps[i] x y) ∨ (c.shut = false ∧ EndsP wd cp a z x y) := by
  have h0 : 0 < ps.length := by cases ps with | nil => simp at ha | cons b l => simp
  rw [List.getElem?_eq_getElem h0] at ha
  rw [List.getElem?_eq_getElem (by omega)] at hz
  injection ha with ha
  injection hz with hz
  unfold CovC CovAt HitP EndsP
  rw [hp]
  simp only
  constructor
  · rintro (⟨h, _⟩ | ⟨i, hi, h⟩)
    · rw [h] at h0; simp at h0
    · rcases h with h | ⟨rfl, b, k, d⟩ | ⟨a1, b, k, d⟩ | ⟨h, d⟩ | ⟨⟨a1, b, k⟩, d⟩
      · exact .inl ⟨i, hi, .inl h⟩
      · rw [ha] at d; exact .inr ⟨b, .inr ⟨k, .inl d⟩⟩
      · have : i = ps.length - 1 := by omega
        subst this
        rw [hz] at d; exact .inr ⟨b, .inr ⟨k, .inr d⟩⟩
      · rcases h with ⟨rfl, b, k⟩ | ⟨b, k⟩
        · rw [ha] at d; exact .inr ⟨b, .inl ⟨k, .inl d⟩⟩
        · refine .inl ⟨i, hi, .inr ⟨k, ?_, d⟩⟩
          rcases Nat.eq_zero_or_pos i with h1 | h1
          · right
            cases hs : c.shut
            · exact absurd ⟨h1, hs⟩ b
            · rfl
          · exact .inl h1
      · have : i = ps.length - 1 := by omega
        subst this
        rw [hz] at d; exact .inr ⟨b, .inl ⟨k, .inr d⟩⟩
  · rintro (⟨i, hi, h⟩ | ⟨hs, h⟩)
    · refine .inr ⟨i, hi, ?_⟩
      rcases h with h | ⟨h1, h2, h3⟩
      · exact .inl h
      · refine .inr (.inr (.inr (.inl ⟨.inr ⟨?_, h1⟩, h3⟩)))
        rintro ⟨h4, h5⟩
        rcases h2 with h2 | h2
        · omega
        · rw [h5] at h2; cases h2
    · rcases h with ⟨h1, h2 | h2⟩ | ⟨h1, h2 | h2⟩
      · exact .inr ⟨0, h0, .inr (.inr (.inr (.inl ⟨.inl ⟨rfl, hs, h1⟩, by rw [ha]; exact h2⟩)))⟩
      · exact .inr ⟨ps.length - 1, by omega, .inr (.inr (.inr (.inr ⟨⟨by omega, hs, h1⟩, by rw [hz]; exact h2⟩)))⟩
      · exact .inr ⟨0, h0, .inr (.inl ⟨rfl, hs, h1, by rw [ha]; exact h2⟩)⟩
      · exact .inr ⟨ps.length - 1, by omega, .inr (.inr (.inl ⟨by omega, hs, h1, by rw [hz]; exact h2⟩))⟩

set_option maxRecDepth 100000 in
set_option maxHeartbeats 4000000 in
theorem ref_Covers_any (ct : Ct) (A : Option Addr) (n c : Nat) (wd cp jn x y : Int) (r : Bool) (w : World) (hn : n ≤ 400) (h : Sl w 7 A n (eds ct.es)) (hgd : GoodC ct) (hbt : ∀ e ∈ ct.es, e.bent = false)
    (hw : WideOK wd) (hx : co x = true) (hy : co y = true) (hr : r = true ↔ CovC ct ⟨wd, cp, jn⟩ x y) :
    Calls Try.prog 25 #[.agg #[.int .i64 ct.x, .int .i64 ct.y, .slice A n c, .bool ct.shut], .agg #[.int .i64 wd, .int .i64 cp, .int .i64 jn], .int .i64 x, .int .i64 y] w
      fun e w' => e = .returned (.bool r) ∧ Below w.heap.size w w' := by
  have hl := h.edlen
  obtain ⟨ps, hps⟩ : ∃ ps, piecesC ct = ps := ⟨_, rfl⟩
  obtain ⟨m, hm⟩ : ∃ m, ps.length = m := ⟨_, rfl⟩
  have hm4 : m ≤ 401 := by
    rw [← hm, ← hps]; unfold piecesC
    rw [List.length_append]
    have h1 := List.length_filter_le moved ct.es
    have h2 : (if ct.shut && moved (backE ct) then [backE ct] else []).length ≤ 1 := by split <;> simp
    omega
  have hok : ∀ e ∈ ps, edOK e = true := fun e he => by rw [← hps] at he; exact (allE_ok hgd hbt e ((pieces_sub e).1 he).1).1
  have hcx := hgd.2.2.1
  have hcy := hgd.2.2.2
  have HR := Lib.hid hr
  have HPS := Lib.hid hps
  have HM := Lib.hid hm
  have HOK := Lib.hid hok
  have HL := Lib.hid hl
  have HGD := Lib.hid hgd
  obtain ⟨W1, hW1⟩ : ∃ W1 : World, W1 = (w.alloc (.cells #[.int .i64 ct.x, .int .i64 ct.y, .slice A n c, .bool ct.shut] 58)).alloc (.cells #[.int .i64 wd, .int .i64 cp, .int .i64 jn] 27) := ⟨_, rfl⟩
  have hB1 : Below w.heap.size w W1 := by rw [hW1]; exact bal (bal (Below.refl _ _) _) _
  have hbx : ∀ j, W1.cell? ⟨w.heap.size, j, none⟩ = (#[Value.int .i64 ct.x, Value.int .i64 ct.y, Value.slice A n c, Value.bool ct.shut] : Array Value)[j]? := fun j => by
    rw [hW1]; exact (later_cell (bal (Below.refl _ _) _) (by simp)).trans (new_cell _ j)
  have hz1 : w.heap.size < W1.heap.size := by rw [hW1]; simp; omega
  have hst : StIn W1 (w.heap.size + 1) wd cp jn := by
    have := StIn.new (w := w.alloc (.cells #[.int .i64 ct.x, .int .i64 ct.y, .slice A n c, .bool ct.shut] 58)) (t := 27) wd cp jn
    rw [show (w.alloc (.cells #[.int .i64 ct.x, .int .i64 ct.y, .slice A n c, .bool ct.shut] 58)).heap.size = w.heap.size + 1 by simp] at this
    rw [hW1]; exact this
  have b0 : W1.cell? ⟨w.heap.size, 0, none⟩ = some (.int .i64 ct.x) := hbx 0
  have b1 : W1.cell? ⟨w.heap.size, 1, none⟩ = some (.int .i64 ct.y) := hbx 1
  have b2 : W1.cell? ⟨w.heap.size, 2, none⟩ = some (.slice A n c) := hbx 2
  have b3 : W1.cell? ⟨w.heap.size, 3, none⟩ = some (.bool ct.shut) := hbx 3
  have hse := h.below hB1
  clear hbx h hr hps hm hok hl hgd hbt
  go_enter Try.func25, Try.ntmps25
  go_wp2_with fail
  rw [← hW1]
  clear hW1
  refine (Pieces_any ct A n c ps m _ hn hse HGD.out HPS.out HM.out).mono ?_; rintro e w1 ⟨Ap, kp, rfl, hown, hbp⟩
  have B1 := btr hB1 hbp
  replace b0 := (later_cell hbp hz1).trans b0
  replace b1 := (later_cell hbp hz1).trans b1
  replace b2 := (later_cell hbp hz1).trans b2
  replace b3 := (later_cell hbp hz1).trans b3
  replace hst := hst.below hbp
  replace hz1 := Nat.lt_of_lt_of_le hz1 hbp.size
  have hps1 := own_sl hown
  clear hse hbp hB1 hown
  obtain ⟨t0, t1, t2, t3⟩ := (⟨hst.c0, hst.c1, hst.c2, hst.lt⟩ : _ ∧ _ ∧ _ ∧ _)
  rcases Bool.eq_false_or_eq_true (isDot ct) with hdt | hdt
  · have hn0 : ps = [] ∧ (0 < ct.es.length ∨ ct.shut = true) := by
      unfold isDot at hdt
      rw [HPS.out, Bool.and_eq_true, decide_eq_true_eq, Bool.or_eq_true, decide_eq_true_eq] at hdt
      exact ⟨List.eq_nil_of_length_eq_zero hdt.1, hdt.2.elim .inr .inl⟩
    have hrd : r = true ↔ (cp = 1 ∧ DiscP ct.x ct.y wd x y) ∨ (cp = 2 ∧ SquareP ct.x ct.y wd x y) := by
      rw [HR.out]
      unfold CovC
      rw [HPS.out, hn0.1]
      constructor
      · rintro (⟨_, _, h⟩ | ⟨i, hi, _⟩)
        · exact h
        · simp at hi
      · intro h; exact .inl ⟨rfl, hn0.2, h⟩
    have HRD := Lib.hid hrd
    rw [hdt]
    clear hdt hn0 hrd hps1
    go_wp2_with fail
    refine (ref_dot_any ct.x ct.y A n c ct.shut wd cp jn x y r _ hcx hcy hw hx hy HRD.out).mono ?_; rintro e w2 ⟨rfl, hb2⟩
    go_wp2
    go_ret
    exact ⟨rfl, btr B1 hb2⟩
  · rw [hdt]
    by_cases hm0 : m = 0
    · have hn0 : ps = [] := List.eq_nil_of_length_eq_zero (by rw [HM.out]; exact hm0)
      have hrf : r = false := by
        cases hh : r
        · rfl
        · have := HR.out.1 hh
          unfold CovC at this
          rw [HPS.out, hn0] at this
          rcases this with ⟨_, h2, _⟩ | ⟨i, hi, _⟩
          · unfold isDot at hdt
            rw [HPS.out, hn0] at hdt
            simp only [List.length_nil, decide_true, Bool.true_and, Bool.or_eq_false_iff, decide_eq_false_iff_not] at hdt
            rcases h2 with h2 | h2
            · exact absurd h2 hdt.2
            · rw [hdt.1] at h2; cases h2
          · simp at hi
      have HRF := Lib.hid hrf
      subst hm0
      clear hn0 hrf hdt
      go_wp2
      go_ret
      exact ⟨ret_b HRF.out.symm, B1⟩
    · have hm1 : 1 ≤ m := by omega
      have hpl : ps.length = m := HM.out
      obtain ⟨ea, hea⟩ : ∃ e, ps[0]? = some e := ⟨_, List.getElem?_eq_getElem (by omega)⟩
      obtain ⟨ez, hez⟩ : ∃ e, ps[m - 1]? = some e := ⟨_, List.getElem?_eq_getElem (by omega)⟩
      have hsp : r = true ↔ (∃ (i : Nat) (h : i < ps.length), HitP ct.shut wd jn i ps[i] x y) ∨ (ct.shut = false ∧ EndsP wd cp ea ez x y) := by
        rw [HR.out]; exact cov_split HPS.out hea (by rw [hpl]; exact hez)
      have hoa : edOK ea = true := HOK.out ea (List.mem_of_getElem? hea)
      have hoz : edOK ez = true := HOK.out ez (List.mem_of_getElem? hez)
      have HSP := Lib.hid hsp
      have HEA := Lib.hid hea
      have HEZ := Lib.hid hez
      have hmz : ((m : Int) == 0) = false := by simp; omega
      have hmz2 : (m == 0) = false := by simp; omega
      clear hdt hm0 hpl hea hez hsp
      go_wp2
      go_loopw [11] (fun i wr => ∃ k : Nat, k ≤ m ∧ i = .int .i64 (k : Int) ∧ Below w1.heap.size w1 wr ∧ Hid (∀ (i : Nat) (h : i < ps.length), i < k → ¬ HitP ct.shut wd jn i ps[i] x y)) (fun i _ => m - (intOf i).toNat)
      case atStart => exact ⟨0, by omega, rfl, Below.refl _ _, fun i _ h => absurd h (Nat.not_lt_zero _)⟩
      case round =>
        obtain ⟨k, hk, rfl, hbr, hno⟩ := hrel
        have c3 := (later_cell hbr hz1).trans b3
        have d0 := (later_cell hbr t3).trans t0
        have d1 := (later_cell hbr t3).trans t1
        have d2 := (later_cell hbr t3).trans t2
        have hsi := hbr.size
        have dz : w.heap.size + 1 < wr.heap.size := by omega
        have cz : w.heap.size < wr.heap.size := by omega
        by_cases hlt : k < m
        · have hkl : k < ps.length := by rw [HM.out]; exact hlt
          obtain ⟨b, off, rfl, hb, e0, e1, e2, e3, e4, e5, e6⟩ := (hps1.below hbr).ed k hlt hkl
          obtain ⟨ed, hed⟩ : ∃ ed, ed = ps[k] := ⟨_, rfl⟩
          have hoe : edOK ed = true := by rw [hed]; exact HOK.out _ (List.getElem_mem hkl)
          have hyes : HitP ct.shut wd jn k ed x y → r = true := fun hh => HSP.out.2 (.inl ⟨k, hkl, by rw [← hed]; exact hh⟩)
          have hnx : ¬ HitP ct.shut wd jn k ed x y → Hid (∀ (i : Nat) (h : i < ps.length), i < k + 1 → ¬ HitP ct.shut wd jn i ps[i] x y) := fun hh => Lib.hid (fun i hi hik => by
            rcases Nat.lt_or_ge i k with h1 | h1
            · exact hno.out i hi h1
            · obtain rfl : i = k := by omega
              rw [← hed]; exact hh)
          rw [← hed] at e0 e1 e2 e3 e4 e5 e6
          obtain ⟨o0, o1, -, -, -, -, -⟩ := edOK_iff.1 hoe
          have O0 := co_iff.2 o0
          have O1 := co_iff.2 o1
          have HYES := Lib.hid hyes
          have HNX := Lib.hid hnx
          obtain ⟨r1, hd1⟩ : ∃ b : Bool, b = decide (OnP ed wd x y) := ⟨_, rfl⟩
          have hi1 : r1 = true ↔ OnP ed wd x y := by rw [hd1, decide_eq_true_eq]
          have HI1 := Lib.hid hi1
          have hi3 : r1 = true ↔ 4 * (armK ed x y * armK ed x y) ≤ wd * wd * sqE ed ∧ 0 ≤ armU ed x y ∧ armU ed x y ≤ sqE ed := hi1
          obtain ⟨A1, A2, A3⟩ := arm_bd hoe hx hy
          have hA := fun W => arm_any ed x y W hoe hx hy
          generalize armU ed x y = ua at *
          generalize armK ed x y = ka at *
          generalize sqE ed = la at *
          have HI3 := Lib.hid hi3
          have HA := Lib.hid hA
          have g0 := fun g : Grown wr => g.cell e0 hb
          have g1 := fun g : Grown wr => g.cell e1 hb
          have g2 := fun g : Grown wr => g.cell e2 hb
          have g3 := fun g : Grown wr => g.cell e3 hb
          have g4 := fun g : Grown wr => g.cell e4 hb
          have g5 := fun g : Grown wr => g.cell e5 hb
          have g6 := fun g : Grown wr => g.cell e6 hb
          have s0 := fun g : Grown wr => g.cell d0 dz
          clear hed hoe hyes hnx o0 o1 hd1 hi1 hi3 hA hno
          go_wp2_with fail
          clear b0 b1 b2 b3 t0 t1 t2
          refine wp_region_grown (by kernel_rfl) (by kernel_rfl) ?_
          repeat (go_big_quiet_step (first
            | (go_at_call 34; with_reducible exact Calls.grown (HA.out _))
            | (go_at_call 35; with_reducible exact Calls.grown (arm_on_any ua ka la wd r1 _ A1 A2 A3 hw HI3.out))))
          refine wpQuiet_nil ?_
          intro _ hw'
          obtain ⟨xq, hw''⟩ := hw'
          subst hw''
          cases r1
          · have f0 := fun g : Grown xq.world => g.cell (xq.cell e0 hb) (Nat.lt_of_lt_of_le hb xq.size)
            have f1 := fun g : Grown xq.world => g.cell (xq.cell e1 hb) (Nat.lt_of_lt_of_le hb xq.size)
            have q0 := fun g : Grown xq.world => g.cell (xq.cell d0 dz) (Nat.lt_of_lt_of_le dz xq.size)
            have q2 := fun g : Grown xq.world => g.cell (xq.cell d2 dz) (Nat.lt_of_lt_of_le dz xq.size)
            have q3 := fun g : Grown xq.world => g.cell (xq.cell c3 cz) (Nat.lt_of_lt_of_le cz xq.size)
            clear e0 e1 e2 e3 e4 e5 e6 d0 d1 d2 c3 g0 g1 g2 g3 g4 g5 g6 s0
            by_cases hj : jn = 1
            · have hjt : (jn == 1) = true := by simp [hj]
              have HJ := Lib.hid hj
              clear hj
              by_cases hk0 : 0 < k
              · have hkt : decide ((k : Int) > 0) = true := by simp; omega
                have hkn : decide (0 < k) = true := by simp; omega
                have HG := Lib.hid (show 0 < k ∨ ct.shut = true from .inl hk0)
                obtain ⟨r2, hd2⟩ : ∃ b : Bool, b = decide (DiscP ed.x0 ed.y0 wd x y) := ⟨_, rfl⟩
                have hi2 : r2 = true ↔ DiscP ed.x0 ed.y0 wd x y := by rw [hd2, decide_eq_true_eq]
                have HI2 := Lib.hid hi2
                clear hd2 hi2
                go_wp2_with fail
                refine wp_region_grown (by kernel_rfl) (by kernel_rfl) ?_
                repeat (go_big_quiet_step ((go_at_call 36; with_reducible exact Calls.grown_same (ref_disc_any ed.x0 ed.y0 wd x y r2 _ O0 O1 hw hx hy HI2.out))))
                refine wpQuiet_nil ?_
                intro _ hw'
                obtain ⟨yq, hw''⟩ := hw'
                subst hw''
                cases r2
                · go_wp2
                  go_roundw
                  case rel => exact ⟨k + 1, by omega, by go_num, btr (btr hbr xq.below) yq.below, HNX.out (fun h => h.elim (fun h => absurd (HI1.out.2 h) (by simp)) (fun h => absurd (HI2.out.2 h.2.2) (by simp)))⟩
                  case measure => simp [intOf]; omega
                · go_wp2
                  go_ret
                  exact ⟨ret_b (HYES.out (.inr ⟨HJ.out, HG.out, HI2.out.1 (by trivial)⟩)).symm, btr B1 (btr (btr hbr xq.below) yq.below)⟩
              · obtain rfl : k = 0 := by omega
                clear hk0
                simp only [Nat.zero_mul, Nat.add_zero] at f0 f1
                rcases Bool.eq_false_or_eq_true ct.shut with hsh | hsh
                · rw [hsh] at q3
                  have HG := Lib.hid (show 0 < 0 ∨ ct.shut = true from .inr hsh)
                  clear hsh
                  obtain ⟨r2, hd2⟩ : ∃ b : Bool, b = decide (DiscP ed.x0 ed.y0 wd x y) := ⟨_, rfl⟩
                  have hi2 : r2 = true ↔ DiscP ed.x0 ed.y0 wd x y := by rw [hd2, decide_eq_true_eq]
                  have HI2 := Lib.hid hi2
                  clear hd2 hi2
                  go_wp2_with fail
                  refine wp_region_grown (by kernel_rfl) (by kernel_rfl) ?_
                  repeat (go_big_quiet_step ((go_at_call 36; with_reducible exact Calls.grown_same (ref_disc_any ed.x0 ed.y0 wd x y r2 _ O0 O1 hw hx hy HI2.out))))
                  refine wpQuiet_nil ?_
                  intro _ hw'
                  obtain ⟨yq, hw''⟩ := hw'
                  subst hw''
                  cases r2
                  · go_wp2
                    go_roundw
                    case rel => exact ⟨0 + 1, by omega, by go_num, btr (btr hbr xq.below) yq.below, HNX.out (fun h => h.elim (fun h => absurd (HI1.out.2 h) (by simp)) (fun h => absurd (HI2.out.2 h.2.2) (by simp)))⟩
                    case measure => simp [intOf]; omega
                  · go_wp2
                    go_ret
                    exact ⟨ret_b (HYES.out (.inr ⟨HJ.out, HG.out, HI2.out.1 (by trivial)⟩)).symm, btr B1 (btr (btr hbr xq.below) yq.below)⟩
                · rw [hsh] at q3
                  have HNO := Lib.hid (show ¬ (jn = 1 ∧ (0 < 0 ∨ ct.shut = true)) from fun h => by rw [hsh] at h; rcases h with ⟨_, h | h⟩ <;> simp at h)
                  clear hsh
                  go_wp2_with fail
                  refine wp_region_grown (by kernel_rfl) (by kernel_rfl) ?_
                  repeat (go_big_quiet_step (fail))
                  refine wpQuiet_nil ?_
                  intro _ hw'
                  obtain ⟨yq, hw''⟩ := hw'
                  subst hw''
                  go_wp2
                  go_roundw
                  case rel => exact ⟨0 + 1, by omega, by go_num, btr (btr hbr xq.below) yq.below, HNX.out (fun h => h.elim (fun h => absurd (HI1.out.2 h) (by simp)) (fun h => HNO.out ⟨h.1, h.2.1⟩))⟩
                  case measure => simp [intOf]; omega
            · have hjt : (jn == 1) = false := by simp [hj]
              have HNO := Lib.hid (show ¬ (jn = 1 ∧ (0 < k ∨ ct.shut = true)) from fun h => hj h.1)
              clear hj
              go_wp2_with fail
              refine wp_region_grown (by kernel_rfl) (by kernel_rfl) ?_
              repeat (go_big_quiet_step (fail))
              refine wpQuiet_nil ?_
              intro _ hw'
              obtain ⟨yq, hw''⟩ := hw'
              subst hw''
              go_wp2
              go_roundw
              case rel => exact ⟨k + 1, by omega, by go_num, btr (btr hbr xq.below) yq.below, HNX.out (fun h => h.elim (fun h => absurd (HI1.out.2 h) (by simp)) (fun h => HNO.out ⟨h.1, h.2.1⟩))⟩
              case measure => simp [intOf]; omega
          · go_wp2
            go_ret
            exact ⟨ret_b (HYES.out (.inl (HI1.out.1 (by trivial)))).symm, btr B1 (btr hbr xq.below)⟩
        · obtain rfl : k = m := by omega
          have hre : r = true ↔ ct.shut = false ∧ EndsP wd cp ea ez x y := by
            rw [HSP.out]
            constructor
            · rintro (⟨i, hi, h⟩ | h)
              · exact absurd h (hno.out i hi (by rw [HM.out] at hi; exact hi))
              · exact h
            · exact .inr
          rcases Bool.eq_false_or_eq_true ct.shut with hsh | hsh
          · rw [hsh] at c3
            have hrf : r = false := by cases hh : r; rfl; have := (hre.1 hh).1; rw [hsh] at this; cases this
            have HRF := Lib.hid hrf
            clear hre hsh hrf
            go_wp2
            go_ret
            exact ⟨ret_b HRF.out.symm, btr B1 hbr⟩
          · rw [hsh] at c3
            have hrf : r = true ↔ EndsP wd cp ea ez x y := by rw [hre]; simp [hsh]
            have HRF := Lib.hid hrf
            clear hre hsh hrf
            have hps2 := hps1.below hbr
            go_wp2_with fail
            refine (ref_ends_any _ k kp ps ea ez wd cp jn x y r _ hm1 (by omega) hps2 HEA.out HEZ.out hoa hoz hw hx hy HRF.out).mono ?_; rintro e w2 ⟨rfl, hb2⟩
            go_wp2
            go_ret
            exact ⟨rfl, btr (btr B1 hbr) hb2⟩
end Go.Proofs.Ytbpgehaflbacmaa
