/- The walk of StrokeJoins: it returns true. -/
import Derived.Test.YtbbffeddlgfeiaaStroke6
import Derived.Test.YtbbffeddlgfeiaaAllP
import Derived.Test.YtbbffeddlgfeiaaAdd2
namespace Go.Proofs.Ytbbffeddlgfeiaa
open Go.RowKit Go.BigFrame

theorem Join_is2 (A B : Option Addr) (n c m d : Nat) (l k J : List Sg) (mj : Nat) (w : World) (hm : n ≤ 100000) (hm2 : m ≤ 100000) (hnc : n ≤ c) (h : Sl w 5 A n (sgs l)) (h2 : Sl w 5 B m (sgs k)) (hE : joinL l k = (J, 0)) (hj : J.length = mj) :
    Calls Try.prog 16 #[.slice A n c, .slice B m d] w fun e w' => ∃ A' c', e = .returned (.tuple #[.slice A' mj c', .int .i64 0]) ∧
      w'.ownsRow w.heap.size 35 5 (.slice A' mj c') mj (sgs J) ∧ Below w.heap.size w w' := by
  subst hj
  exact Join_any A B n c m d l k (J, 0) w hm hm2 hnc h h2 hE
/-- A stroke's answer for a style by a number, on a path by numbers. -/
theorem inL_made {l : List Sg} {s : Sy} {x y : Int} (hm : mayB l = true) (hb : ∀ t ∈ l, t.kind ≠ 3) (hw : 0 ≤ s.wide ∧ s.wide ≤ 2048) (hc : 0 ≤ s.cap ∧ s.cap ≤ 2) (hj : 0 ≤ s.join ∧ s.join ≤ 1) (hx : -8191 ≤ x ∧ x ≤ 8191) (hy : -8191 ≤ y ∧ y ≤ 8191) :
    inL l s x y = covL l s x y := inL_is hm hb (mayS_iff.2 ⟨hw.1, hw.2, hc.1, hc.2, hj.1, hj.2⟩) (co_iff.2 hx) (co_iff.2 hy)

theorem In_st {A : Option Addr} {n c : Nat} {l : List Sg} {wd cp jn x y : Int} {r : Bool} (w : World) (hr : inL l ⟨wd, cp, jn⟩ x y = r) (hn : n ≤ 1000000) (h : Sl w 5 A n (sgs l)) :
    Calls Try.prog 13 #[.slice A n c, .agg #[.int .i64 wd, .int .i64 cp, .int .i64 jn], .int .i64 x, .int .i64 y] w fun e w' => e = .returned (.bool r) ∧ Below w.heap.size w w' := by
  subst hr
  exact stroke_In_any A n c l ⟨wd, cp, jn⟩ x y w hn h

set_option maxRecDepth 100000 in
set_option maxHeartbeats 400000 in
theorem StrokeJoins_any (A : Option Addr) (n c : Nat) (A' : Option Addr) (n' c' : Nat) (v x y : Int) (w : World) (h : InA w A n) (hnc : n ≤ c) (hcm : c ≤ 9223372036854775807)
    (h' : InA w A' n') (hnc' : n' ≤ c') (hcm' : c' ≤ 9223372036854775807) :
    Calls Try.prog 7 #[.slice A n c, .slice A' n' c', .int .i64 v, .int .i64 x, .int .i64 y] w fun e w' => e = .returned (.bool true) ∧ Below w.heap.size w w' := by
  go_enter Try.func7, Try.ntmps7
  go_wp2_with fail
  refine (known33_any _).mono ?_; rintro e w1 ⟨rfl, hb1⟩
  go_wp2_with fail
  refine (Made_any A n c false w1 (h.below hb1) hnc hcm).mono ?_; rintro e w2 ⟨l, A2, c2, rfl, hown2, hmd2, hb2⟩
  have B2 : Below w.heap.size w w2 := btr hb1 hb2
  have hp2 := own_sl hown2
  have hlc := own_cap hown2
  clear hb1 hb2 hown2
  go_wp2_with fail
  refine (Made_any A' n' c' false w2 (h'.below B2) hnc' hcm').mono ?_; rintro e w3 ⟨r, A3, c3, rfl, hown3, hmd3, hb3⟩
  have B3 := btr B2 hb3
  have hp3 := hp2.below hb3
  have hq3 := own_sl hown3
  clear hb3 hown3 hp2 B2
  obtain ⟨J, hJ, hJl, hJm, hJs, hJc⟩ := join_cts hmd2.may hmd3.may (by have := hmd2.2.1; have := hmd3.2.1; omega)
  have hlm := hmd2.may
  have hrm := hmd3.may
  have hlk := hmd2.2.2.2 rfl
  have hrk := hmd3.2.2.2 rfl
  have hJk : ∀ s ∈ J, s.kind ≠ 3 := fun s hs => (hJs s hs).elim (hlk s) (hrk s)
  have hl12 := hmd2.2.1
  have hr12 := hmd3.2.1
  have hJ24 : J.length ≤ 24 := by omega
  have hso := styI_ok v
  have hpx := pntI_ok x
  have hpy := pntI_ok y
  have hans : inL J (styI v) (pntI x) (pntI y) = (inL l (styI v) (pntI x) (pntI y) || inL r (styI v) (pntI x) (pntI y)) := by
    rw [inL_made hJm hJk (by omega) (by omega) (by omega) (by omega) (by omega), inL_made hlm hlk (by omega) (by omega) (by omega) (by omega) (by omega), inL_made hrm hrk (by omega) (by omega) (by omega) (by omega) (by omega)]
    exact covL_join hJc _ _ _
  obtain ⟨ll, hll⟩ : ∃ x, l.length = x := ⟨_, rfl⟩
  obtain ⟨rl, hrl⟩ : ∃ x, r.length = x := ⟨_, rfl⟩
  obtain ⟨jl, hjl⟩ : ∃ x, J.length = x := ⟨_, rfl⟩
  rw [hll] at hl12 hp3 hlc ⊢
  rw [hrl] at hr12 hq3 ⊢
  rw [hjl] at hJ24
  have HJ := Lib.hid hJ
  have HLL := Lib.hid hll
  have HRL := Lib.hid hrl
  have HJL := Lib.hid hjl
  have HANS := Lib.hid hans
  clear hmd2 hmd3 hJ hJm hJs hJc hlm hrm hlk hrk hJk hll hrl hjl hJl hans hso hpx hpy
  go_wp2_with fail
  refine (Style_any v _).mono ?_; rintro e w4 ⟨rfl, hb4⟩
  have B4 := btr B3 hb4
  have hp4 := hp3.below hb4
  have hq4 := hq3.below hb4
  clear hb4 hp3 hq3 B3
  obtain ⟨s, hs⟩ : ∃ s, s = styI v := ⟨_, rfl⟩
  rw [← hs] at HANS ⊢
  clear hs
  obtain ⟨wd, cp, jn⟩ := s
  simp only [syc]
  go_wp2_with fail
  obtain ⟨w5, hw5⟩ : ∃ w5 : World, w5 = w4.alloc (.cells #[.int .i64 wd, .int .i64 cp, .int .i64 jn] 27) := ⟨_, rfl⟩
  rw [← hw5]
  have s0 : w5.cell? ⟨w4.heap.size, 0, none⟩ = some (.int .i64 wd) := by rw [hw5]; exact new_cell _ 0
  have s1 : w5.cell? ⟨w4.heap.size, 1, none⟩ = some (.int .i64 cp) := by rw [hw5]; exact new_cell _ 1
  have s2 : w5.cell? ⟨w4.heap.size, 2, none⟩ = some (.int .i64 jn) := by rw [hw5]; exact new_cell _ 2
  have hb45 : Below w4.heap.size w4 w5 := by rw [hw5]; exact bal (Below.refl _ _) _
  have hz5 : w4.heap.size < w5.heap.size := by rw [hw5]; simp
  have B5 := btr B4 hb45
  have hp5 := hp4.below hb45
  have hq5 := hq4.below hb45
  clear hw5 hb45 hp4 hq4 B4
  refine (Join_is2 A2 A3 ll c2 rl c3 l r J jl _ (by omega) (by omega) hlc hp5 hq5 HJ.out HJL.out).mono ?_; rintro e w6 ⟨A6, c6, rfl, hown6, hb6⟩
  have B6 := btr B5 hb6
  have hp6 := hp5.below hb6
  have hq6 := hq5.below hb6
  have hj6 := own_sl hown6
  replace s0 := (later_cell hb6 hz5).trans s0
  replace s1 := (later_cell hb6 hz5).trans s1
  replace s2 := (later_cell hb6 hz5).trans s2
  have hz6 := Nat.lt_of_lt_of_le hz5 hb6.size
  clear hb6 hown6 hp5 hq5 B5
  go_wp2_with fail
  have t0 := fun g : Grown w6 => g.cell s0 hz6
  have t1 := fun g : Grown w6 => g.cell s1 hz6
  have t2 := fun g : Grown w6 => g.cell s2 hz6
  obtain ⟨jv, hjv⟩ : ∃ b, inL J ⟨wd, cp, jn⟩ (pntI x) (pntI y) = b := ⟨_, rfl⟩
  obtain ⟨lv, hlv⟩ : ∃ b, inL l ⟨wd, cp, jn⟩ (pntI x) (pntI y) = b := ⟨_, rfl⟩
  obtain ⟨rv, hrv⟩ : ∃ b, inL r ⟨wd, cp, jn⟩ (pntI x) (pntI y) = b := ⟨_, rfl⟩
  rw [hjv, hlv, hrv] at HANS
  have HJV := Lib.hid hjv
  have HLV := Lib.hid hlv
  have HRV := Lib.hid hrv
  clear hjv hlv hrv
  cases lv
  all_goals
    refine wp_region_grown (by kernel_rfl) (by kernel_rfl) ?_
    repeat (go_big_quiet_step (first
      | (go_at_call 14; with_reducible exact Calls.grown_same (point_any _ _))
      | (go_at_call 13; with_reducible exact Calls.grown (In_st (l := J) _ HJV.out (by omega) (hj6.below (Grown.below _))))
      | (go_at_call 13; with_reducible exact Calls.grown (In_st (l := l) _ HLV.out (by omega) (hp6.below (Grown.below _))))
      | (go_at_call 13; with_reducible exact Calls.grown (In_st (l := r) _ HRV.out (by omega) (hq6.below (Grown.below _))))))
    refine wpQuiet_nil ?_
    intro _ hw'
    obtain ⟨xq, hw''⟩ := hw'
    subst hw''
    go_wp2
    go_ret
    refine ⟨ret_b ?_, btr B6 xq.below⟩
    rw [HANS.out]
    simp
end Go.Proofs.Ytbbffeddlgfeiaa
