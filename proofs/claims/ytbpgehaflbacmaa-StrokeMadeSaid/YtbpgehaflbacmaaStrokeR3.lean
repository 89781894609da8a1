/- The reference's disc, dot, ends, Covers. -/
import Derived.Test.YtbpgehaflbacmaaStrokeR2
import Derived.Test.YtbpgehaflbacmaaStrokeWithin
import Derived.Test.YtbpgehaflbacmaaAllP
import Derived.BigRegion
namespace Go.Proofs.Ytbpgehaflbacmaa
open Go.RowKit Go.BigFrame

set_option maxHeartbeats 1000000 in
theorem ref_disc_any (a b wd x y : Int) (r : Bool) (w : World) (ha : co a = true) (hb : co b = true) (hw : WideOK wd) (hx : co x = true) (hy : co y = true) (hr : r = true ↔ DiscP a b wd x y) :
    Calls Try.prog 36 #[.int .i64 a, .int .i64 b, .int .i64 wd, .int .i64 x, .int .i64 y] w fun e w' => e = .returned (.bool r) ∧ w = w' := by
  rw [co_iff] at ha hb hx hy
  obtain ⟨hw0, hw1⟩ := hw
  obtain ⟨vx, hvx⟩ : ∃ v, v = x - a := ⟨_, rfl⟩
  obtain ⟨vy, hvy⟩ : ∃ v, v = y - b := ⟨_, rfl⟩
  have b1 := sq_bd (a := vx) (A := 16382) (by omega)
  have b2 := sq_bd (a := vy) (A := 16382) (by omega)
  have b3 := sq_bd (a := wd) (A := 2048) (by omega)
  obtain ⟨X, hX⟩ : ∃ X, X = vx * vx := ⟨_, rfl⟩
  obtain ⟨Y, hY⟩ : ∃ Y, Y = vy * vy := ⟨_, rfl⟩
  obtain ⟨W, hW⟩ : ∃ W, W = wd * wd := ⟨_, rfl⟩
  rw [← hX] at b1
  rw [← hY] at b2
  rw [← hW] at b3
  have hP : r = decide (4 * (X + Y) ≤ W) := by rw [Bool.eq_iff_iff, hr, decide_eq_true_eq, hX, hY, hW, hvx, hvy]; exact Iff.rfl
  rw [hP]
  clear hP hr
  obtain ⟨a0, a1⟩ := ha
  obtain ⟨b0, b4⟩ := hb
  obtain ⟨x0, x1⟩ := hx
  obtain ⟨y0, y1⟩ := hy
  have v0 : -16382 ≤ vx ∧ vx ≤ 16382 := by omega
  have v1 : -16382 ≤ vy ∧ vy ≤ 16382 := by omega
  obtain ⟨v00, v01⟩ := v0
  obtain ⟨v10, v11⟩ := v1
  replace hvx := hvx.symm
  replace hvy := hvy.symm
  replace hX := hX.symm
  replace hY := hY.symm
  replace hW := hW.symm
  go_enter Try.func36, Try.ntmps36
  go_wp2
  go_ret
  exact ⟨rfl, rfl⟩
set_option maxHeartbeats 1000000 in
theorem ref_dot_any (cx cy : Int) (A : Option Addr) (n c : Nat) (sh : Bool) (wd cp jn x y : Int) (r : Bool) (w : World) (ha : co cx = true) (hb : co cy = true) (hw : WideOK wd) (hx : co x = true) (hy : co y = true)
    (hr : r = true ↔ (cp = 1 ∧ DiscP cx cy wd x y) ∨ (cp = 2 ∧ SquareP cx cy wd x y)) :
    Calls Try.prog 33 #[.agg #[.int .i64 cx, .int .i64 cy, .slice A n c, .bool sh], .agg #[.int .i64 wd, .int .i64 cp, .int .i64 jn], .int .i64 x, .int .i64 y] w
      fun e w' => e = .returned (.bool r) ∧ Below w.heap.size w w' := by
  have HR := Lib.hid hr
  have hB := bal (bal (Below.refl w.heap.size w) (.cells #[.int .i64 cx, .int .i64 cy, .slice A n c, .bool sh] 58)) (.cells #[.int .i64 wd, .int .i64 cp, .int .i64 jn] 27)
  clear hr
  go_enter Try.func33, Try.ntmps33
  by_cases h1 : cp = 1
  · have g1 : (cp == 1) = true := by simp [h1]
    have hr1 : r = true ↔ DiscP cx cy wd x y := by rw [HR.out]; simp [h1]
    have HR1 := Lib.hid hr1
    clear hr1 h1
    go_wp2_with fail
    refine (ref_disc_any cx cy wd x y r _ ha hb hw hx hy HR1.out).mono ?_; rintro e w1 ⟨rfl, rfl⟩
    go_wp2
    go_ret
    exact ⟨rfl, hB⟩
  · have g1 : (cp == 1) = false := by simp [h1]
    by_cases h2 : cp = 2
    · have g2 : (cp == 2) = true := by simp [h2]
      have hr1 : r = true ↔ max (2 * (x - cx)) (-2 * (x - cx)) ≤ wd ∧ max (2 * (y - cy)) (-2 * (y - cy)) ≤ wd := by rw [HR.out]; simp [h2, SquareP]
      have HR1 := Lib.hid hr1
      rw [co_iff] at ha hb hx hy
      obtain ⟨a0, a1⟩ := ha
      obtain ⟨b0, b1⟩ := hb
      obtain ⟨x0, x1⟩ := hx
      obtain ⟨y0, y1⟩ := hy
      obtain ⟨hw0, hw1⟩ := hw
      clear hr1 h1 h2
      go_wp2
      all_goals
        go_ret
        refine ⟨ret_b ?_, hB⟩
        rw [Bool.eq_iff_iff, HR1.out]
        simp only [decide_eq_true_eq, Bool.false_eq_true, false_iff]
        omega
    · have g2 : (cp == 2) = false := by simp [h2]
      have hr1 : r = false := by cases hh : r; rfl; rw [hh] at HR; have := HR.out.1 rfl; omega
      have HR1 := Lib.hid hr1
      clear hr1 h1 h2
      go_wp2
      go_ret
      exact ⟨ret_b HR1.out.symm, hB⟩
/-- Square ends as the reference has them. -/
theorem ahead_iff (e : Ed) (w x y : Int) (hw : 0 ≤ w) : (4 * (armK e x y * armK e x y) ≤ w * w * sqE e ∧ armU e x y ≤ 0 ∧ 0 ≤ rsgn (2 * armU e x y) w (sqE e)) ↔ AheadP e w x y := by
  unfold AheadP
  rw [rsgn_ge hw (sqE_nonneg e)]
  have h1 : 2 * armU e x y * (2 * armU e x y) = 4 * (armU e x y * armU e x y) := by grind
  have h2 := Int.mul_nonneg (sq_nonneg w) (sqE_nonneg e)
  have h3 : armU e x y = 0 → armU e x y * armU e x y = 0 := fun h => by rw [h]; rfl
  rw [h1]
  constructor
  · rintro ⟨a, b, c⟩; exact ⟨a, b, by omega⟩
  · rintro ⟨a, b, c⟩; exact ⟨a, b, by omega⟩
theorem behind_iff (e : Ed) (w x y : Int) (hw : 0 ≤ w) : (4 * (armK e x y * armK e x y) ≤ w * w * sqE e ∧ sqE e ≤ armU e x y ∧ rsgn (2 * (armU e x y - sqE e)) (-w) (sqE e) ≤ 0) ↔ BehindP e w x y := by
  unfold BehindP
  rw [rsgn_le (by omega) (sqE_nonneg e)]
  have h1 : 2 * (armU e x y - sqE e) * (2 * (armU e x y - sqE e)) = 4 * ((armU e x y - sqE e) * (armU e x y - sqE e)) := by grind
  have h2 := Int.mul_nonneg (sq_nonneg w) (sqE_nonneg e)
  have h3 : armU e x y - sqE e = 0 → (armU e x y - sqE e) * (armU e x y - sqE e) = 0 := fun h => by rw [h]; rfl
  rw [h1, Int.neg_mul_neg]
  constructor
  · rintro ⟨a, b, c⟩; exact ⟨a, b, by omega⟩
  · rintro ⟨a, b, c⟩; exact ⟨a, b, by omega⟩
/-- An edge that lies in memory. -/
structure EdIn (w : World) (g : Nat) (e : Ed) : Prop where
  lt : g < w.heap.size
  c0 : w.cell? ⟨g, 0, none⟩ = some (.int .i64 e.x0)
  c1 : w.cell? ⟨g, 1, none⟩ = some (.int .i64 e.y0)
  c2 : w.cell? ⟨g, 2, none⟩ = some (.bool e.bent)
  c3 : w.cell? ⟨g, 3, none⟩ = some (.int .i64 e.cx)
  c4 : w.cell? ⟨g, 4, none⟩ = some (.int .i64 e.cy)
  c5 : w.cell? ⟨g, 5, none⟩ = some (.int .i64 e.x1)
  c6 : w.cell? ⟨g, 6, none⟩ = some (.int .i64 e.y1)
theorem EdIn.new {w : World} {t : TypeId} (e : Ed) {g : Nat} (hg : w.heap.size = g) :
    EdIn (w.alloc (.cells #[.int .i64 e.x0, .int .i64 e.y0, .bool e.bent, .int .i64 e.cx, .int .i64 e.cy, .int .i64 e.x1, .int .i64 e.y1] t)) g e := by
  subst hg
  exact ⟨by simp, new_cell _ 0, new_cell _ 1, new_cell _ 2, new_cell _ 3, new_cell _ 4, new_cell _ 5, new_cell _ 6⟩
theorem EdIn.below {w w' : World} {g : Nat} {e : Ed} (h : EdIn w g e) (hb : Below w.heap.size w w') : EdIn w' g e :=
  ⟨Nat.lt_of_lt_of_le h.lt hb.size, (later_cell hb h.lt).trans h.c0, (later_cell hb h.lt).trans h.c1, (later_cell hb h.lt).trans h.c2, (later_cell hb h.lt).trans h.c3, (later_cell hb h.lt).trans h.c4, (later_cell hb h.lt).trans h.c5, (later_cell hb h.lt).trans h.c6⟩
set_option maxRecDepth 100000 in
set_option maxHeartbeats 2000000 in
theorem ref_ends_any (A : Option Addr) (n c : Nat) (es : List Ed) (a z : Ed) (wd cp jn x y : Int) (r : Bool) (w : World) (hn : 1 ≤ n) (hn4 : n ≤ 1000) (h : Sl w 7 A n (eds es)) (ha : es[0]? = some a) (hz : es[n - 1]? = some z)
    (hoa : edOK a = true) (hoz : edOK z = true) (hw : WideOK wd) (hx : co x = true) (hy : co y = true)
    (hr : r = true ↔ (cp = 1 ∧ (DiscP a.x0 a.y0 wd x y ∨ DiscP z.x1 z.y1 wd x y)) ∨ (cp = 2 ∧ (AheadP a wd x y ∨ BehindP z wd x y))) :
    Calls Try.prog 37 #[.slice A n c, .agg #[.int .i64 wd, .int .i64 cp, .int .i64 jn], .int .i64 x, .int .i64 y] w fun e w' => e = .returned (.bool r) ∧ Below w.heap.size w w' := by
  have hl := h.edlen
  have HR := Lib.hid hr
  have h0l : 0 < es.length := by omega
  have hzl : n - 1 < es.length := by omega
  rw [List.getElem?_eq_getElem h0l] at ha
  rw [List.getElem?_eq_getElem hzl] at hz
  injection ha with ha
  injection hz with hz
  obtain ⟨w0, hw0⟩ : ∃ w0 : World, w0 = w.alloc (.cells #[.int .i64 wd, .int .i64 cp, .int .i64 jn] 27) := ⟨_, rfl⟩
  have hst : StIn w0 w.heap.size wd cp jn := by rw [hw0]; exact StIn.new _ _ _
  have B0 : Below w.heap.size w w0 := by rw [hw0]; exact bal (Below.refl _ _) _
  have h0 := h.below B0
  obtain ⟨b, off, hA, hb, e0, e1, e2, e3, e4, e5, e6⟩ := h0.ed 0 (by omega) h0l
  obtain ⟨b', off', hA', hb', f0, f1, f2, f3, f4, f5, f6⟩ := h0.ed (n - 1) (by omega) hzl
  rw [hA] at hA'
  injection hA' with hA'
  injection hA' with hb1 ho1
  subst hb1
  subst ho1
  clear hb'
  subst hA
  rw [ha] at e0 e1 e2 e3 e4 e5 e6
  rw [hz] at f0 f1 f2 f3 f4 f5 f6
  simp only [Nat.zero_mul, Nat.add_zero] at e0 e1 e2 e3 e4 e5 e6
  clear hr ha hz hl h0l hzl h h0
  go_enter Try.func37, Try.ntmps37
  go_wp2_with fail
  rw [← hw0]
  clear hw0
  go_cut [9, 10] (fun s9 s10 wx => ∃ g k : Nat, s9 = .pointer (some ⟨g, 0, none⟩) ∧ s10 = .pointer (some ⟨k, 0, none⟩) ∧ EdIn wx g a ∧ EdIn wx k z ∧ Below w0.heap.size w0 wx)
  case first =>
    go_region
    all_goals
      go_wp2
      go_meet
      first
        | exact ⟨_, _, rfl, rfl, (EdIn.new a rfl).below (bdrew (bal (Below.refl _ _) _)), (EdIn.new z (by simp)).below (bdrew (Below.refl _ _)), bdrew (bal (bal (Below.refl _ _) _) _)⟩
        | exact ⟨_, _, rfl, rfl, (EdIn.new a (by simp)).below (bdrew (Below.refl _ _)), (EdIn.new z rfl).below (bdrew (bal (Below.refl _ _) _)), bdrew (bal (bal (Below.refl _ _) _) _)⟩
  case rest =>
    obtain ⟨g, k, rfl, rfl, hga, hkz, hbx⟩ := hcut
    have B1 := btr B0 hbx
    have ht := hst.below hbx

    obtain ⟨w1, rfl⟩ : ∃ w1 : World, w1 = wc := ⟨_, rfl⟩
    clear e0 e1 e2 e3 e4 e5 e6 f0 f1 f2 f3 f4 f5 f6 hst hbx hb
    have t0 := ht.c0
    have t1 := ht.c1
    have tz := ht.lt
    by_cases hc1 : cp = 1
    · have hr1 := HR.out
      rw [hc1] at hr1
      obtain ⟨r1, hd1⟩ : ∃ b : Bool, b = decide (DiscP a.x0 a.y0 wd x y) := ⟨_, rfl⟩
      obtain ⟨r2, hd2⟩ : ∃ b : Bool, b = decide (DiscP z.x1 z.y1 wd x y) := ⟨_, rfl⟩
      have hi1 : r1 = true ↔ DiscP a.x0 a.y0 wd x y := by rw [hd1, decide_eq_true_eq]
      have hi2 : r2 = true ↔ DiscP z.x1 z.y1 wd x y := by rw [hd2, decide_eq_true_eq]
      have hrr : r = (r1 || r2) := by rw [Bool.eq_iff_iff, hr1, Bool.or_eq_true, hi1, hi2]; simp
      have HI1 := Lib.hid hi1
      have HI2 := Lib.hid hi2
      have HRR := Lib.hid hrr
      obtain ⟨a0, a1, -, -, -, -, -⟩ := edOK_iff.1 hoa
      obtain ⟨-, -, -, -, z5, z6, -⟩ := edOK_iff.1 hoz
      have c0 := hga.c0
      have c1 := hga.c1
      have c5 := hkz.c5
      have c6 := hkz.c6
      have hk1 : (cp == 1) = true := by simp [hc1]
      clear hr1 hd1 hd2 hi1 hi2 hrr hc1
      go_wp2_with fail
      refine (ref_disc_any _ _ wd x y r1 _ (co_iff.2 a0) (co_iff.2 a1) hw hx hy HI1.out).mono ?_; rintro e w2 ⟨rfl, rfl⟩
      cases r1
      · go_wp2_with fail
        refine (ref_disc_any _ _ wd x y r2 _ (co_iff.2 z5) (co_iff.2 z6) hw hx hy HI2.out).mono ?_; rintro e w2 ⟨rfl, rfl⟩
        go_wp2
        go_ret
        exact ⟨ret_b (by rw [HRR.out]; simp), B1⟩
      · go_wp2
        go_ret
        exact ⟨ret_b (by rw [HRR.out]; simp), B1⟩
    · have hk1 : (cp == 1) = false := by simp [hc1]
      by_cases hc2 : cp = 2
      · have hr1 := HR.out
        rw [hc2] at hr1
        obtain ⟨r1, hd1⟩ : ∃ b : Bool, b = decide (4 * (armK a x y * armK a x y) ≤ wd * wd * sqE a ∧ armU a x y ≤ 0 ∧ 0 ≤ rsgn (2 * armU a x y) wd (sqE a)) := ⟨_, rfl⟩
        obtain ⟨r2, hd2⟩ : ∃ b : Bool, b = decide (4 * (armK z x y * armK z x y) ≤ wd * wd * sqE z ∧ sqE z ≤ armU z x y ∧ rsgn (2 * (armU z x y - sqE z)) (-wd) (sqE z) ≤ 0) := ⟨_, rfl⟩
        have hi1 : r1 = true ↔ 4 * (armK a x y * armK a x y) ≤ wd * wd * sqE a ∧ armU a x y ≤ 0 ∧ 0 ≤ rsgn (2 * armU a x y) wd (sqE a) := by rw [hd1, decide_eq_true_eq]
        have hi2 : r2 = true ↔ 4 * (armK z x y * armK z x y) ≤ wd * wd * sqE z ∧ sqE z ≤ armU z x y ∧ rsgn (2 * (armU z x y - sqE z)) (-wd) (sqE z) ≤ 0 := by rw [hd2, decide_eq_true_eq]
        have hrr : r = (r1 || r2) := by rw [Bool.eq_iff_iff, hr1, Bool.or_eq_true, hi1, hi2, ahead_iff _ _ _ _ hw.1, behind_iff _ _ _ _ hw.1]; simp
        have HI1 := Lib.hid hi1
        have HI2 := Lib.hid hi2
        have HRR := Lib.hid hrr
        obtain ⟨A1, A2, A3⟩ := arm_bd hoa hx hy
        obtain ⟨Z1, Z2, Z3⟩ := arm_bd hoz hx hy
        have hA := fun W => arm_any a x y W hoa hx hy
        have hZ := fun W => arm_any z x y W hoz hx hy
        generalize armU a x y = ua at *
        generalize armK a x y = ka at *
        generalize sqE a = la at *
        generalize armU z x y = uz at *
        generalize armK z x y = kz at *
        generalize sqE z = lz at *
        have HA := Lib.hid hA
        have HZ := Lib.hid hZ
        have hk2 : (cp == 2) = true := by simp [hc2]
        have a0 := fun g : Grown w1 => g.cell hga.c0 hga.lt
        have a1 := fun g : Grown w1 => g.cell hga.c1 hga.lt
        have a2 := fun g : Grown w1 => g.cell hga.c2 hga.lt
        have a3 := fun g : Grown w1 => g.cell hga.c3 hga.lt
        have a4 := fun g : Grown w1 => g.cell hga.c4 hga.lt
        have a5 := fun g : Grown w1 => g.cell hga.c5 hga.lt
        have a6 := fun g : Grown w1 => g.cell hga.c6 hga.lt
        have z0 := fun g : Grown w1 => g.cell hkz.c0 hkz.lt
        have z1 := fun g : Grown w1 => g.cell hkz.c1 hkz.lt
        have z2 := fun g : Grown w1 => g.cell hkz.c2 hkz.lt
        have z3 := fun g : Grown w1 => g.cell hkz.c3 hkz.lt
        have z4 := fun g : Grown w1 => g.cell hkz.c4 hkz.lt
        have z5 := fun g : Grown w1 => g.cell hkz.c5 hkz.lt
        have z6 := fun g : Grown w1 => g.cell hkz.c6 hkz.lt
        have s0 := fun g : Grown w1 => g.cell t0 tz
        clear hr1 hd1 hd2 hi1 hi2 hrr hc1 hc2 hA hZ
        go_wp2_with fail
        clear t0 t1
        cases r1
        · refine wp_region_grown (by kernel_rfl) (by kernel_rfl) ?_
          repeat (go_big_quiet_step (first
            | (go_at_call 34; with_reducible exact Calls.grown (HA.out _))
            | (go_at_call 34; with_reducible exact Calls.grown (HZ.out _))
            | (go_at_call 43; with_reducible exact Calls.grown (arm_ahead_any ua ka la wd false _ A1 A2 A3 hw HI1.out))
            | (go_at_call 44; with_reducible exact Calls.grown (arm_behind_any uz kz lz wd r2 _ Z1 Z2 Z3 hw HI2.out))))
          refine wpQuiet_nil ?_
          intro _ hw'
          obtain ⟨xq, hw''⟩ := hw'
          subst hw''
          go_wp2
          go_ret
          exact ⟨ret_b (by rw [HRR.out]; simp), btr B1 xq.below⟩
        · refine wp_region_grown (by kernel_rfl) (by kernel_rfl) ?_
          repeat (go_big_quiet_step (first
            | (go_at_call 34; with_reducible exact Calls.grown (HA.out _))
            | (go_at_call 43; with_reducible exact Calls.grown (arm_ahead_any ua ka la wd true _ A1 A2 A3 hw HI1.out))))
          refine wpQuiet_nil ?_
          intro _ hw'
          obtain ⟨xq, hw''⟩ := hw'
          subst hw''
          go_wp2
          go_ret
          exact ⟨ret_b (by rw [HRR.out]; simp), btr B1 xq.below⟩
      · have hk2 : (cp == 2) = false := by simp [hc2]
        have hr1 : r = false := by cases hh : r; rfl; rw [hh] at HR; have := HR.out.1 rfl; omega
        have HR1 := Lib.hid hr1
        clear hr1 hc1 hc2
        go_wp2
        go_ret
        exact ⟨ret_b HR1.out.symm, B1⟩
end Go.Proofs.Ytbpgehaflbacmaa
