/- The walk of StrokeWithin: it returns true. -/
import Derived.Test.YtbbffeddlgfeiaaStrokeJoins
import Derived.Test.YtbbffeddlgfeiaaAllP
import Derived.Test.YtbbffeddlgfeiaaBox2
namespace Go.Proofs.Ytbbffeddlgfeiaa
open Go.RowKit Go.BigFrame

/-- A style that lies in memory. -/
structure StIn (w : World) (g : Nat) (a b c : Int) : Prop where
  lt : g < w.heap.size
  c0 : w.cell? ⟨g, 0, none⟩ = some (.int .i64 a)
  c1 : w.cell? ⟨g, 1, none⟩ = some (.int .i64 b)
  c2 : w.cell? ⟨g, 2, none⟩ = some (.int .i64 c)
theorem StIn.below {w w' : World} {g : Nat} {a b c : Int} (h : StIn w g a b c) (hb : Below w.heap.size w w') : StIn w' g a b c :=
  ⟨Nat.lt_of_lt_of_le h.lt hb.size, (later_cell hb h.lt).trans h.c0, (later_cell hb h.lt).trans h.c1, (later_cell hb h.lt).trans h.c2⟩
theorem StIn.new {w : World} {t : TypeId} (a b c : Int) : StIn (w.alloc (.cells #[.int .i64 a, .int .i64 b, .int .i64 c] t)) w.heap.size a b c :=
  ⟨by simp, new_cell _ 0, new_cell _ 1, new_cell _ 2⟩

set_option maxRecDepth 100000 in
set_option maxHeartbeats 1000000 in
theorem StrokeWithin_any (A : Option Addr) (n c : Nat) (v x y : Int) (w : World) (h : InA w A n) (hnc : n ≤ c) (hcm : c ≤ 9223372036854775807) :
    Calls Try.prog 6 #[.slice A n c, .int .i64 v, .int .i64 x, .int .i64 y] w fun e w' => e = .returned (.bool true) ∧ Below w.heap.size w w' := by
  go_enter Try.func6, Try.ntmps6
  go_wp2_with fail
  refine (known33_any _).mono ?_; rintro e w1 ⟨rfl, hb1⟩
  go_wp2_with fail
  refine (Made_any A n c false w1 (h.below hb1) hnc hcm).mono ?_; rintro e w2 ⟨l, A2, c2, rfl, hown2, hmd2, hb2⟩
  have B2 : Below w.heap.size w w2 := btr hb1 hb2
  have hp2 := own_sl hown2
  clear hb1 hb2 hown2
  have hlm := hmd2.may
  have hlk := hmd2.2.2.2 rfl
  have hl12 := hmd2.2.1
  obtain ⟨ll, hll⟩ : ∃ x, l.length = x := ⟨_, rfl⟩
  rw [hll] at hl12 hp2 ⊢
  have HLM := Lib.hid hlm
  have HLK := Lib.hid hlk
  clear hmd2 hlm hlk hll
  go_wp2_with fail
  refine (Style_any v _).mono ?_; rintro e w4 ⟨rfl, hb4⟩
  have B4 := btr B2 hb4
  have hp4 := hp2.below hb4
  have hso := styI_ok v
  clear hb4 hp2 B2
  obtain ⟨s, hs⟩ : ∃ s, s = styI v := ⟨_, rfl⟩
  rw [← hs] at hso ⊢
  clear hs
  obtain ⟨wd, cp, jn⟩ := s
  simp only at hso
  simp only [syc]
  go_wp2_with fail
  obtain ⟨w5, hw5⟩ : ∃ w5 : World, w5 = w4.alloc (.cells #[.int .i64 wd, .int .i64 cp, .int .i64 jn] 27) := ⟨_, rfl⟩
  rw [← hw5]
  have hst : StIn w5 w4.heap.size wd cp jn := by rw [hw5]; exact StIn.new _ _ _
  have hb45 : Below w4.heap.size w4 w5 := by rw [hw5]; exact bal (Below.refl _ _) _
  have B5 := btr B4 hb45
  have hp5 := hp4.below hb45
  obtain ⟨hz5, t0, t1, t2⟩ := hst
  clear hw5 hb45 hp4 B4
  refine (point_any x _).mono ?_; rintro e w6 ⟨rfl, rfl⟩
  go_wp2_with fail
  refine (point_any y _).mono ?_; rintro e w6 ⟨rfl, rfl⟩
  have hpx := pntI_ok x
  have hpy := pntI_ok y
  generalize pntI x = px at *
  generalize pntI y = py at *
  obtain ⟨r, hr⟩ : ∃ b, inL l ⟨wd, cp, jn⟩ px py = b := ⟨_, rfl⟩
  have hrc : r = true → covL l ⟨wd, cp, jn⟩ px py = true := by
    rintro rfl
    rwa [inL_made HLM.out HLK.out (by simp only; omega) (by simp only; omega) (by simp only; omega) (by omega) (by omega)] at hr
  have HR := Lib.hid hr
  have HRC := Lib.hid hrc
  clear hr hrc
  go_wp2_with fail
  refine (In_st (l := l) _ HR.out (by omega) hp5).mono ?_; rintro e w6 ⟨rfl, hb6⟩
  have B6 := btr B5 hb6
  have hp6 := hp5.below hb6
  replace t0 := (later_cell hb6 hz5).trans t0
  have hz6 := Nat.lt_of_lt_of_le hz5 hb6.size
  clear hb6 hp5 B5 t1 t2 HR
  cases r
  · go_wp2
    go_ret
    exact ⟨rfl, B6⟩
  · obtain ⟨b, hbx, i0, i1, i2, i3⟩ := cov_box HLM.out (by simp only; omega) (HRC.out rfl)
    simp only at i0 i1 i2 i3
    have hbd : -8191 ≤ b.x0 ∧ b.x0 ≤ 8191 ∧ -8191 ≤ b.x1 ∧ b.x1 ≤ 8191 ∧ -8191 ≤ b.y0 ∧ b.y0 ≤ 8191 ∧ -8191 ≤ b.y1 ∧ b.y1 ≤ 8191 := box_bd HLM.out hbx
    have HBX := Lib.hid hbx
    obtain ⟨bx0, by0, bx1, by1⟩ := b
    simp only at i0 i1 i2 i3 hbd
    clear hbx HRC
    go_wp2_with fail
    refine (Box_any _ _ _ l _ _ (by omega) hp6 HBX.out).mono ?_; rintro e w7 ⟨rfl, hb7⟩
    replace t0 := (later_cell hb7 hz6).trans t0
    have B7 := btr B6 hb7
    obtain ⟨q1, q2, q3, q4, q5, q6, q7, q8⟩ := hbd
    obtain ⟨v1, v2, v3, v4, v5, v6⟩ := hso
    go_wp2
    go_ret
    exact ⟨ret_b (by simp <;> omega), B7⟩
end Go.Proofs.Ytbbffeddlgfeiaa
