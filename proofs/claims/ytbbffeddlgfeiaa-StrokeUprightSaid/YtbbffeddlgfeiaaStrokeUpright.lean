/- The walk of StrokeUpright: it returns true. -/
import Derived.Test.YtbbffeddlgfeiaaStrokeWithin
import Derived.Test.YtbbffeddlgfeiaaAllP
namespace Go.Proofs.Ytbbffeddlgfeiaa
open Go.RowKit Go.BigFrame

/-- What a box answers, by cases. -/
theorem up_cases {p q t w u d lo hi : Int} {b sq r of : Bool} (h : UpLaw p q t w u d b sq r) (hw : 0 ≤ w) (hl : lo = min p q) (hh : hi = max p q) (ho : of = true ↔ 2 * max (d - t) (t - d) ≤ w) :
    (of = false ∧ b = false ∧ sq = false ∧ r = false) ∨ (of = true ∧ lo ≤ u ∧ u ≤ hi ∧ 2 * (lo - u) ≤ w ∧ 2 * (u - hi) ≤ w ∧ b = true ∧ sq = true ∧ r = true) ∨
    (of = true ∧ u < lo ∧ 2 * (lo - u) ≤ w ∧ 2 * (u - hi) ≤ w ∧ b = false ∧ sq = true) ∨ (of = true ∧ lo ≤ u ∧ hi < u ∧ 2 * (lo - u) ≤ w ∧ 2 * (u - hi) ≤ w ∧ b = false ∧ sq = true) ∨
    (of = true ∧ u < lo ∧ w < 2 * (lo - u) ∧ b = false ∧ sq = false ∧ r = false) ∨ (of = true ∧ lo ≤ u ∧ hi < u ∧ 2 * (lo - u) ≤ w ∧ w < 2 * (u - hi) ∧ b = false ∧ sq = false ∧ r = false) := by
  obtain ⟨h1, h2, h3, h4⟩ := h
  rw [← hl, ← hh, ← ho] at h1 h2
  have hlh : lo ≤ hi := by omega
  have h5 : sq = false → r = false := fun h => by
    cases hr : r
    · rfl
    · rw [h3 hr] at h; cases h
  cases of
  · left
    have hb : b = false := by
      cases hb : b
      · rfl
      · have := h1.1 hb; simp at this
    have hs : sq = false := by
      cases hs : sq
      · rfl
      · have := h2.1 hs; simp at this
    exact ⟨rfl, hb, hs, h5 hs⟩
  · right
    simp only [true_and] at h1 h2
    have hb : ¬ (lo ≤ u ∧ u ≤ hi) → b = false := fun hn => by
      cases hb : b
      · rfl
      · exact absurd (h1.1 hb) hn
    have hs : ¬ (2 * (lo - u) ≤ w ∧ 2 * (u - hi) ≤ w) → sq = false := fun hn => by
      cases hs : sq
      · rfl
      · exact absurd (h2.1 hs) hn
    by_cases c1 : u < lo
    · by_cases c2 : 2 * (lo - u) ≤ w
      · exact .inr (.inl ⟨rfl, c1, c2, by omega, hb (by omega), h2.2 ⟨c2, by omega⟩⟩)
      · have h6 := hs (by omega)
        exact .inr (.inr (.inr (.inl ⟨rfl, c1, by omega, hb (by omega), h6, h5 h6⟩)))
    · by_cases c3 : hi < u
      · by_cases c2 : 2 * (u - hi) ≤ w
        · exact .inr (.inr (.inl ⟨rfl, by omega, c3, by omega, c2, hb (by omega), h2.2 ⟨by omega, c2⟩⟩))
        · have h6 := hs (by omega)
          exact .inr (.inr (.inr (.inr ⟨rfl, by omega, c3, by omega, by omega, hb (by omega), h6, h5 h6⟩)))
      · have h7 := h1.2 ⟨by omega, by omega⟩
        have h8 := h4 h7
        exact .inl ⟨rfl, by omega, by omega, by omega, by omega, h7, h3 h8, h8⟩
theorem field_wide (a b c : Int) (w : World) : (Instr.field 27 (.agg #[.int .i64 a, .int .i64 b, .int .i64 c]) 0).run Try.prog w = .ok (.int .i64 a) w := by kernel_rfl
/-- The path, and where the point is, seen along it. -/
def UpIs (p q t wd u d X Y : Int) (L : List Sg) : Prop :=
  mayB L = true ∧ (∀ s ∈ L, s.kind ≠ 3) ∧ UpLaw p q t wd u d (covL L ⟨wd, 0, 0⟩ X Y) (covL L ⟨wd, 2, 0⟩ X Y) (covL L ⟨wd, 1, 0⟩ X Y)

set_option maxRecDepth 100000 in
set_option maxHeartbeats 4000000 in
theorem StrokeUpright_any (a0 a1 a2 v : Int) (up : Bool) (x y : Int) (w : World) :
    Calls Try.prog 4 #[.agg #[.int .i64 a0, .int .i64 a1, .int .i64 a2], .int .i64 v, .bool up, .int .i64 x, .int .i64 y] w fun e w' => e = .returned (.bool true) ∧ Below w.heap.size w w' := by
  go_enter Try.func4, Try.ntmps4
  go_wp2_with fail
  obtain ⟨w0, hw0⟩ : ∃ w0 : World, w0 = w.alloc (.cells #[.int .i64 a0, .int .i64 a1, .int .i64 a2] 33) := ⟨_, rfl⟩
  rw [← hw0]
  have hst : StIn w0 w.heap.size a0 a1 a2 := by rw [hw0]; exact StIn.new _ _ _
  have B0 : Below w.heap.size w w0 := by rw [hw0]; exact bal (Below.refl _ _) _
  clear hw0
  refine (known33_any _).mono ?_; rintro e w1 ⟨rfl, hb1⟩
  have B1 := btr B0 hb1
  obtain ⟨hz1, t0, t1, t2⟩ := hst.below hb1
  clear hst hb1 B0
  go_wp2_with fail
  have u0 := fun g : Grown w1 => g.cell t0 hz1
  have u1 := fun g : Grown w1 => g.cell t1 hz1
  have u2 := fun g : Grown w1 => g.cell t2 hz1
  refine wp_region_grown (by kernel_rfl) (by kernel_rfl) ?_
  repeat (go_big_quiet_step ((go_at_call 14; with_reducible exact Calls.grown_same (point_any _ _))))
  refine wpQuiet_nil ?_
  intro _ hw'
  obtain ⟨xq, hw''⟩ := hw'
  subst hw''
  have B2 := btr B1 xq.below
  obtain ⟨w2, hw2⟩ : ∃ w2, w2 = xq.world := ⟨_, rfl⟩
  rw [← hw2] at B2 ⊢
  clear hw2 u0 u1 u2 t0 t1 t2 B1
  have h0 := pntI_ok a0
  have h1 := pntI_ok a1
  have h2 := pntI_ok a2
  have hpx := pntI_ok x
  have hpy := pntI_ok y
  generalize pntI a0 = p at *
  generalize pntI a1 = q0 at *
  generalize pntI a2 = t at *
  go_upto_if 37 with (fail)
  go_cut [12] (fun s12 wx => ∃ q : Int, s12 = .int .i64 q ∧ -100 ≤ q ∧ q ≤ 439 ∧ Hid (p ≠ q) ∧ w2 = wx)
  case first =>
    by_cases hpq : p = q0
    · subst hpq
      go_wp2
      go_meet
      exact ⟨p + 40, by go_num, by omega, by omega, Lib.hid (by omega), rfl⟩
    · have hb0 : (p == q0) = false := by simp [hpq]
      have HPQ := Lib.hid hpq
      clear hpq
      go_wp2
      go_meet
      exact ⟨q0, rfl, by omega, by omega, HPQ, rfl⟩
  case rest =>
    obtain ⟨q, rfl, hq1, hq2, hne, rfl⟩ := hcut
    go_wp2_with fail
    refine (Style_any v _).mono ?_; rintro e w3 ⟨rfl, hb3⟩
    have B3 := btr B2 hb3
    have hso := styI_ok v
    obtain ⟨s, hs⟩ : ∃ s, s = styI v := ⟨_, rfl⟩
    rw [← hs] at hso ⊢
    clear hs hb3 B2
    obtain ⟨wd, cp, jn⟩ := s
    simp only at hso
    simp only [syc]
    have hfd := fun W => field_wide wd cp jn W
    obtain ⟨v1, v2, -, -, -, -⟩ := hso
    go_upto_if 54 with (go_at_call 14; with_reducible refine (point_any _ _).mono ?_; rintro e w' ⟨rfl, rfl⟩)
    have hX : -100 ≤ pntI x ∧ pntI x ≤ 379 := hpx
    have hY : -100 ≤ pntI y ∧ pntI y ≤ 379 := hpy
    obtain ⟨X, hXX⟩ : ∃ X, X = pntI x := ⟨_, rfl⟩
    obtain ⟨Y, hYY⟩ : ∃ Y, Y = pntI y := ⟨_, rfl⟩
    rw [← hXX] at hX ⊢
    rw [← hYY] at hY ⊢
    go_cut [15, 16, 17] (fun s15 s16 s17 wx => ∃ (A : Option Addr) (L : List Sg) (U D : Int), s15 = .slice A 2 2 ∧ s16 = .int .i64 U ∧ s17 = .int .i64 D ∧ Sl wx 5 A 2 (sgs L) ∧ Hid (UpIs p q t wd U D X Y L) ∧ -100 ≤ U ∧ U ≤ 379 ∧ -100 ≤ D ∧ D ≤ 379 ∧ Below w3.heap.size w3 wx)
    case first =>
      cases up
      · go_wp2
        go_meet
        exact ⟨_, oneL p t q t, X, Y, rfl, rfl, rfl, sl_newN (sgs (oneL p t q t)) rfl rfl, Lib.hid ⟨oneL_may (co_iff.2 (by omega)) (co_iff.2 (by omega)) (co_iff.2 (by omega)) (co_iff.2 (by omega)), oneL_nobow _ _ _ _, up_level (co_iff.2 (by omega)) (co_iff.2 (by omega)) (co_iff.2 (by omega)) v1 hne.out⟩, by omega, by omega, by omega, by omega, bal (Below.refl _ _) _⟩
      · go_wp2
        go_meet
        exact ⟨_, oneL t p t q, Y, X, rfl, rfl, rfl, sl_newN (sgs (oneL t p t q)) (by simp) rfl, Lib.hid ⟨oneL_may (co_iff.2 (by omega)) (co_iff.2 (by omega)) (co_iff.2 (by omega)) (co_iff.2 (by omega)), oneL_nobow _ _ _ _, up_upright (co_iff.2 (by omega)) (co_iff.2 (by omega)) (co_iff.2 (by omega)) v1 hne.out⟩, by omega, by omega, by omega, by omega, bal (bal (Below.refl _ _) _) _⟩
    case rest =>
      obtain ⟨A, L, U, D, rfl, rfl, rfl, hsl, hup, hU1, hU2, hD1, hD2, hbc⟩ := hcut
      have B4 := btr B3 hbc
      clear hbc B3
      go_upto_region 12 with (fail)
      go_cut [18] (fun s18 wx => ∃ of : Bool, s18 = .bool of ∧ Hid (of = true ↔ 2 * max (D - t) (t - D) ≤ wd) ∧ wc = wx)
      case first =>
        rcases Int.lt_or_le (D - t) (t - D) with hmx | hmx
        · go_wp2
          go_meet
          exact ⟨_, rfl, Lib.hid (by rw [decide_eq_true_eq]; omega), rfl⟩
        · go_wp2
          go_meet
          exact ⟨_, rfl, Lib.hid (by rw [decide_eq_true_eq]; omega), rfl⟩
      case rest =>
        obtain ⟨of, rfl, hof, rfl⟩ := hcut
        obtain ⟨hLM, hLK, hLaw⟩ := hup.out
        have hX2 : X = pntI x := hXX
        have hY2 : Y = pntI y := hYY
        obtain ⟨b, hb⟩ : ∃ b, b = covL L ⟨wd, 0, 0⟩ X Y := ⟨_, rfl⟩
        obtain ⟨sq, hsq⟩ : ∃ b, b = covL L ⟨wd, 2, 0⟩ X Y := ⟨_, rfl⟩
        obtain ⟨r, hr⟩ : ∃ b, b = covL L ⟨wd, 1, 0⟩ X Y := ⟨_, rfl⟩
        rw [← hb, ← hsq, ← hr] at hLaw
        rw [← inL_made hLM hLK (by simp only; omega) (by simp only; omega) (by simp only; omega) (by omega) (by omega), hXX, hYY] at hb hsq hr
        have HB := Lib.hid hb.symm
        have HS := Lib.hid hsq.symm
        have HR := Lib.hid hr.symm
        have HLAW := Lib.hid hLaw
        clear hb hsq hr hLaw hLM hLK hup
        go_wp2_with (first
          | (go_at_call 14; with_reducible refine (point_any _ _).mono ?_; rintro e w' ⟨rfl, rfl⟩)
          | fail)
        refine (In_st (l := L) _ HB.out (by omega) hsl).mono ?_; rintro e w4 ⟨rfl, hb4⟩
        have B5 := btr B4 hb4
        have hl5 := hsl.below hb4
        clear hb4 B4
        go_wp2_with (first
          | (go_at_call 14; with_reducible refine (point_any _ _).mono ?_; rintro e w' ⟨rfl, rfl⟩)
          | fail)
        refine (In_st (l := L) _ HS.out (by omega) hl5).mono ?_; rintro e w5 ⟨rfl, hb5⟩
        have B6 := btr B5 hb5
        have hl6 := hl5.below hb5
        clear hb5 B5
        go_wp2_with (first
          | (go_at_call 14; with_reducible refine (point_any _ _).mono ?_; rintro e w' ⟨rfl, rfl⟩)
          | fail)
        refine (In_st (l := L) _ HR.out (by omega) hl6).mono ?_; rintro e w6 ⟨rfl, hb6⟩
        have B7 := btr B6 hb6
        clear hb6 B6 hl5 hl6 hsl HB HS HR hXX hYY hX2 hY2
        go_upto_region 16 with (fail)
        go_cut [22, 23] (fun s22 s23 wx => ∃ lo hi : Int, s22 = .int .i64 lo ∧ s23 = .int .i64 hi ∧ Hid (lo = min p q ∧ hi = max p q) ∧ -100 ≤ lo ∧ lo ≤ 439 ∧ -100 ≤ hi ∧ hi ≤ 439 ∧ w6 = wx)
        case first =>
          rcases Int.lt_or_le p q with hpl | hpl
          · go_wp2
            go_meet
            exact ⟨p, q, rfl, rfl, Lib.hid (by omega), by omega, by omega, by omega, by omega, rfl⟩
          · have hpl2 : q < p := by have := hne.out; omega
            clear hpl
            go_wp2
            go_meet
            exact ⟨q, p, rfl, rfl, Lib.hid (by omega), by omega, by omega, by omega, by omega, rfl⟩
        case rest =>
          obtain ⟨lo, hi, rfl, rfl, hlh, hl1, hl2, hh1, hh2, rfl⟩ := hcut
          have hcs := up_cases HLAW.out v1 hlh.out.1 hlh.out.2 hof.out
          clear hlh hof HLAW hfd
          rcases hcs with ⟨rfl, rfl, rfl, rfl⟩ | ⟨rfl, i1, i2, i3, i4, rfl, rfl, rfl⟩ | ⟨rfl, i1, i2, i3, rfl, rfl⟩ | ⟨rfl, i0, i1, i2, i3, rfl, rfl⟩ | ⟨rfl, i1, i2, rfl, rfl, rfl⟩ | ⟨rfl, i0, i1, i2, i3, rfl, rfl, rfl⟩
          · go_wp2
            go_ret
            first | exact ⟨rfl, B7⟩ | exact ⟨ret_b (by simp; omega), B7⟩
          · go_wp2
            go_ret
            first | exact ⟨rfl, B7⟩ | exact ⟨ret_b (by simp; omega), B7⟩
          · cases r
            · go_wp2
              go_ret
              first | exact ⟨rfl, B7⟩ | exact ⟨ret_b (by simp; omega), B7⟩
            · go_wp2
              go_ret
              first | exact ⟨rfl, B7⟩ | exact ⟨ret_b (by simp; omega), B7⟩
          · cases r
            · go_wp2
              go_ret
              first | exact ⟨rfl, B7⟩ | exact ⟨ret_b (by simp; omega), B7⟩
            · go_wp2
              go_ret
              first | exact ⟨rfl, B7⟩ | exact ⟨ret_b (by simp; omega), B7⟩
          · go_wp2
            go_ret
            first | exact ⟨rfl, B7⟩ | exact ⟨ret_b (by simp; omega), B7⟩
          · go_wp2
            go_ret
            first | exact ⟨rfl, B7⟩ | exact ⟨ret_b (by simp; omega), B7⟩
end Go.Proofs.Ytbbffeddlgfeiaa
