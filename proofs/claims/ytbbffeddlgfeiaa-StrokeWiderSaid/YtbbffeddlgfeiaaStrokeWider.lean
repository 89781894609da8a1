/- The walk of StrokeWider: it returns true. -/
import Derived.Test.YtbbffeddlgfeiaaStrokeWithin
import Derived.Test.YtbbffeddlgfeiaaAllP
import Derived.BigRegion
namespace Go.Proofs.Ytbbffeddlgfeiaa
open Go.RowKit Go.BigFrame

/-- A style that lies in memory and may be written. -/
structure StW (w : World) (g : Nat) (a b c : Int) : Prop where
  lt : g < w.heap.size
  c0 : w.cell? ⟨g, 0, none⟩ = some (.int .i64 a)
  c1 : w.cell? ⟨g, 1, none⟩ = some (.int .i64 b)
  c2 : w.cell? ⟨g, 2, none⟩ = some (.int .i64 c)
  fz : ∀ j, w.frozen? ⟨g, j, none⟩ = false
theorem StW.below {w w' : World} {g : Nat} {a b c : Int} (h : StW w g a b c) (hb : Below w.heap.size w w') : StW w' g a b c :=
  ⟨Nat.lt_of_lt_of_le h.lt hb.size, (later_cell hb h.lt).trans h.c0, (later_cell hb h.lt).trans h.c1, (later_cell hb h.lt).trans h.c2, fun j => (later_frozen hb h.lt).trans (h.fz j)⟩
theorem StW.new {w : World} {t : TypeId} (a b c : Int) {g : Nat} (hg : w.heap.size = g) : StW (w.alloc (.cells #[.int .i64 a, .int .i64 b, .int .i64 c] t)) g a b c := by
  subst hg
  exact ⟨by simp, new_cell _ 0, new_cell _ 1, new_cell _ 2, fun j => frozen_of_row _ _ _ _ _ (heap_alloc_new _ _)⟩
theorem StIn.other {w : World} {g k o : Nat} {a b c : Int} (h : StIn w g a b c) (hk : k ≠ g) (u : Value) : StIn (w.setCell ⟨k, o, none⟩ u) g a b c := by
  refine ⟨by simpa [World.setCell] using h.lt, ?_, ?_, ?_⟩
  · rw [World.cell?_setCell_other _ _ _ _ (by intro e; injection e with e; exact hk e)]; exact h.c0
  · rw [World.cell?_setCell_other _ _ _ _ (by intro e; injection e with e; exact hk e)]; exact h.c1
  · rw [World.cell?_setCell_other _ _ _ _ (by intro e; injection e with e; exact hk e)]; exact h.c2
theorem StW.stIn {w : World} {g : Nat} {a b c : Int} (h : StW w g a b c) : StIn w g a b c := ⟨h.lt, h.c0, h.c1, h.c2⟩
theorem StW.other {w : World} {g k o : Nat} {a b c : Int} (h : StW w g a b c) (hk : k ≠ g) (u : Value) : StW (w.setCell ⟨k, o, none⟩ u) g a b c := by
  refine ⟨by simpa [World.setCell] using h.lt, ?_, ?_, ?_, fun j => ?_⟩
  · rw [World.cell?_setCell_other _ _ _ _ (by intro e; injection e with e; exact hk e)]; exact h.c0
  · rw [World.cell?_setCell_other _ _ _ _ (by intro e; injection e with e; exact hk e)]; exact h.c1
  · rw [World.cell?_setCell_other _ _ _ _ (by intro e; injection e with e; exact hk e)]; exact h.c2
  · rw [World.frozen?_setCell]; exact h.fz j
theorem StW.set0 {w : World} {g : Nat} {a b c : Int} (h : StW w g a b c) (u : Int) : StW (w.setCell ⟨g, 0, none⟩ (.int .i64 u)) g u b c := by
  refine ⟨by simpa [World.setCell] using h.lt, World.cell?_setCell_same _ _ _ h.c0, ?_, ?_, fun j => ?_⟩
  · rw [World.cell?_setCell_other _ _ _ _ (by intro e; injection e; omega)]; exact h.c1
  · rw [World.cell?_setCell_other _ _ _ _ (by intro e; injection e; omega)]; exact h.c2
  · rw [World.frozen?_setCell]; exact h.fz j
theorem StW.set1 {w : World} {g : Nat} {a b c : Int} (h : StW w g a b c) (u : Int) : StW (w.setCell ⟨g, 1, none⟩ (.int .i64 u)) g a u c := by
  refine ⟨by simpa [World.setCell] using h.lt, ?_, World.cell?_setCell_same _ _ _ h.c1, ?_, fun j => ?_⟩
  · rw [World.cell?_setCell_other _ _ _ _ (by intro e; injection e; omega)]; exact h.c0
  · rw [World.cell?_setCell_other _ _ _ _ (by intro e; injection e; omega)]; exact h.c2
  · rw [World.frozen?_setCell]; exact h.fz j
theorem StW.set2 {w : World} {g : Nat} {a b c : Int} (h : StW w g a b c) (u : Int) : StW (w.setCell ⟨g, 2, none⟩ (.int .i64 u)) g a b u := by
  refine ⟨by simpa [World.setCell] using h.lt, ?_, ?_, World.cell?_setCell_same _ _ _ h.c2, fun j => ?_⟩
  · rw [World.cell?_setCell_other _ _ _ _ (by intro e; injection e; omega)]; exact h.c0
  · rw [World.cell?_setCell_other _ _ _ _ (by intro e; injection e; omega)]; exact h.c1
  · rw [World.frozen?_setCell]; exact h.fz j

set_option maxRecDepth 100000 in
set_option maxHeartbeats 30000000 in
theorem StrokeWider_any (A : Option Addr) (n c : Nat) (v more x y : Int) (w : World) (h : InA w A n) (hnc : n ≤ c) (hcm : c ≤ 9223372036854775807) :
    Calls Try.prog 3 #[.slice A n c, .int .i64 v, .int .i64 more, .int .i64 x, .int .i64 y] w fun e w' => e = .returned (.bool true) ∧ Below w.heap.size w w' := by
  go_enter Try.func3, Try.ntmps3
  go_wp2_with fail
  refine (known33_any _).mono ?_; rintro e w1 ⟨rfl, hb1⟩
  go_wp2_with fail
  refine (Made_any A n c false w1 (h.below hb1) hnc hcm).mono ?_; rintro e w2 ⟨l, A2, c2, rfl, hown2, hmd2, hb2⟩
  have B2 : Below w.heap.size w w2 := btr hb1 hb2
  have hp2 := own_sl hown2
  clear hb1 hb2 hown2
  have hlm := hmd2.may
  have hlk := hmd2.2.2.2 rfl
  have hl12 := hmd2.2.1
  obtain ⟨ll, hll⟩ : ∃ x, l.length = x := ⟨_, rfl⟩
  rw [hll] at hl12 hp2 ⊢
  have HLM := Lib.hid hlm
  have HLK := Lib.hid hlk
  clear hmd2 hlm hlk hll
  go_wp2_with fail
  refine (Style_any v _).mono ?_; rintro e w4 ⟨rfl, hb4⟩
  have B4 := btr B2 hb4
  have hp4 := hp2.below hb4
  have hso := styI_ok v
  clear hb4 hp2 B2
  obtain ⟨s, hs⟩ : ∃ s, s = styI v := ⟨_, rfl⟩
  rw [← hs] at hso ⊢
  clear hs
  obtain ⟨wd, cp, jn⟩ := s
  simp only at hso
  simp only [syc]
  go_wp2_with fail
  obtain ⟨w5, hw5⟩ : ∃ w5 : World, w5 = w4.alloc (.cells #[.int .i64 wd, .int .i64 cp, .int .i64 jn] 27) := ⟨_, rfl⟩
  rw [← hw5]
  have hst : StIn w5 w4.heap.size wd cp jn := by rw [hw5]; exact StIn.new _ _ _
  have hb45 : Below w4.heap.size w4 w5 := by rw [hw5]; exact bal (Below.refl _ _) _
  have hz5 : w5.heap.size = w4.heap.size + 1 := by rw [hw5]; simp
  have B5 := btr B4 hb45
  have hs4 : w.heap.size ≤ w4.heap.size := B4.size
  have hp5 := hp4.below hb45
  have t0 := hst.c0
  have t1 := hst.c1
  have t2 := hst.c2
  have tz := hst.lt
  clear hw5
  go_cut [13, 14, 15, 16] (fun s13 s14 s15 s16 wx => ∃ g1 g2 g3 g4 : Nat, s13 = .pointer (some ⟨g1, 0, none⟩) ∧ s14 = .pointer (some ⟨g2, 0, none⟩) ∧ s15 = .pointer (some ⟨g3, 0, none⟩) ∧ s16 = .pointer (some ⟨g4, 0, none⟩) ∧
    StW wx g1 wd cp jn ∧ StW wx g2 wd cp jn ∧ StW wx g3 wd cp jn ∧ StW wx g4 wd cp jn ∧ (w4.heap.size < g1 ∧ w4.heap.size < g2 ∧ w4.heap.size < g3 ∧ w4.heap.size < g4) ∧ (g1 ≠ g2 ∧ g1 ≠ g3 ∧ g1 ≠ g4 ∧ g2 ≠ g3 ∧ g2 ≠ g4 ∧ g3 ≠ g4) ∧ Below w5.heap.size w5 wx)
  case first =>
    have hfour : ∀ g, w4.heap.size < g → g < w4.heap.size + 5 → StW ((((w5.alloc (.cells #[.int .i64 wd, .int .i64 cp, .int .i64 jn] 27)).alloc (.cells #[.int .i64 wd, .int .i64 cp, .int .i64 jn] 27)).alloc (.cells #[.int .i64 wd, .int .i64 cp, .int .i64 jn] 27)).alloc (.cells #[.int .i64 wd, .int .i64 cp, .int .i64 jn] 27)).drew g wd cp jn := fun g hg1 hg2 => by
      rcases (show g = w4.heap.size + 1 ∨ g = w4.heap.size + 2 ∨ g = w4.heap.size + 3 ∨ g = w4.heap.size + 4 by omega) with rfl | rfl | rfl | rfl
      · exact (StW.new wd cp jn hz5).below (bdrew (bal (bal (bal (Below.refl _ _) _) _) _))
      · exact (StW.new wd cp jn (by simp [hz5])).below (bdrew (bal (bal (Below.refl _ _) _) _))
      · exact (StW.new wd cp jn (by simp [hz5])).below (bdrew (bal (Below.refl _ _) _))
      · exact (StW.new wd cp jn (by simp [hz5])).below (bdrew (Below.refl _ _))
    have hbf : Below w5.heap.size w5 ((((w5.alloc (.cells #[.int .i64 wd, .int .i64 cp, .int .i64 jn] 27)).alloc (.cells #[.int .i64 wd, .int .i64 cp, .int .i64 jn] 27)).alloc (.cells #[.int .i64 wd, .int .i64 cp, .int .i64 jn] 27)).alloc (.cells #[.int .i64 wd, .int .i64 cp, .int .i64 jn] 27)).drew := bdrew (bal (bal (bal (bal (Below.refl _ _) _) _) _) _)
    go_upto_region 4 with (fail)
    as_aux_lemma =>
      go_region
      all_goals
        go_wp2
        go_meet
        exact ⟨_, _, _, _, rfl, rfl, rfl, rfl, hfour _ (by omega) (by omega), hfour _ (by omega) (by omega), hfour _ (by omega) (by omega), hfour _ (by omega) (by omega), ⟨by omega, by omega, by omega, by omega⟩, ⟨by omega, by omega, by omega, by omega, by omega, by omega⟩, hbf⟩
  case rest =>
    obtain ⟨g1, g2, g3, g4, rfl, rfl, rfl, rfl, k1, k2, k3, k4, ⟨l1, l2, l3, l4⟩, ⟨n1, n2, n3, n4, n5, n6⟩, hbc⟩ := hcut
    have ks := hst.below hbc
    have B6 := btr hb45 hbc
    clear hbc hp5 hst t0 t1 t2 tz B5 hb45
    obtain ⟨w6, rfl⟩ : ∃ w6 : World, w6 = wc := ⟨_, rfl⟩
    obtain ⟨P, hP⟩ : ∃ P, P = placeI more 200 := ⟨_, rfl⟩
    obtain ⟨hP1, hP2⟩ : 0 ≤ P ∧ P < 200 := by rw [hP]; unfold placeI; omega
    obtain ⟨v1, v2, v3, v4, v5, v6⟩ := hso
    have hwr : IntKind.i64.wrap (wd + P) = wd + P := IntWalk.i64_in _ (by omega)
    have hpl := fun W => Place_big2 more 200 W (by decide) (by decide)
    simp only [← hP] at hpl
    have HPL := Lib.hid hpl
    clear hP hpl
    have q0 := ks.c0
    have q3 := ks.lt
    have r0 := k1.c0
    have r3 := k1.lt
    have r4 := k1.fz 0
    go_upto_region 5 with (fail)
    go_cut [30] (fun s wx => s = .pointer (some ⟨w4.heap.size, 0, none⟩) ∧ StW wx g1 (wd + P) cp jn ∧ StW wx g2 wd cp jn ∧ StW wx g3 wd cp jn ∧ StW wx g4 wd cp jn ∧ StIn wx w4.heap.size wd cp jn ∧ Below w4.heap.size w4 wx)
    case first =>
      go_region_with (go_at_call 12; refine (HPL.out _).mono ?_; rintro e w' ⟨rfl, rfl⟩)
      all_goals
        go_wp2
        try rw [hwr]
        go_meet
        exact ⟨rfl, (k1.set0 _).below (bdrew (Below.refl _ _)), (k2.other n1 _).below (bdrew (Below.refl _ _)), (k3.other n2 _).below (bdrew (Below.refl _ _)), (k4.other n3 _).below (bdrew (Below.refl _ _)), (ks.other (by omega) _).below (bdrew (Below.refl _ _)), bdrew (bset B6 (by show w4.heap.size ≤ g1; omega) _)⟩
    case rest =>
      obtain ⟨rfl, m1, m2, m3, m4, ms, B7⟩ := hcut
      obtain ⟨w7, rfl⟩ : ∃ w7 : World, w7 = wc := ⟨_, rfl⟩
      have q0 := ms.c0
      have q1 := ms.c1
      have q2 := ms.c2
      have q3 := ms.lt
      go_upto_region 7 with (fail)
      have hs7 := B7.size
      obtain ⟨w8, hw8⟩ : ∃ w8 : World, w8 = w7.alloc (.cells #[.int .i64 wd, .int .i64 cp, .int .i64 jn] 27) := ⟨_, rfl⟩
      have hb78 : Below w7.heap.size w7 w8 := by rw [hw8]; exact bal (Below.refl _ _) _
      have s5 : StW w8 w7.heap.size wd cp jn := by rw [hw8]; exact StW.new _ _ _ rfl
      have s1 := m1.below hb78
      have s2 := m2.below hb78
      have s3 := m3.below hb78
      have s4 := m4.below hb78
      have ss := ms.below hb78
      have X8 := btr B7 hb78
      have e1 : w7.heap.size ≠ g1 := by have := m1.lt; omega
      have e2 : w7.heap.size ≠ g2 := by have := m2.lt; omega
      have e3 : w7.heap.size ≠ g3 := by have := m3.lt; omega
      have e4 : w7.heap.size ≠ g4 := by have := m4.lt; omega
      have e5 : w4.heap.size ≠ w7.heap.size := by have := ms.lt; omega
      have e6 : w4.heap.size < w7.heap.size := ms.lt
      rw [← hw8]
      clear hw8 hb78 m1 m2 m3 m4 ms q0 q1 q2 q3 B7
      clear hs7
      generalize w7.heap.size = g5 at *
      have f0 := s5.c1
      have f1 := s5.fz 1
      have f2 := s5.lt
      go_upto_region 8 with (fail)
      obtain ⟨w9, hw9⟩ : ∃ w9 : World, w9 = w8.setCell ⟨g5, 1, none⟩ (.int .i64 0) := ⟨_, rfl⟩
      have s51 : StW w9 g5 wd 0 jn := by rw [hw9]; exact s5.set1 _
      have s11 : StW w9 g1 (wd + P) cp jn := by rw [hw9]; exact s1.other e1 _
      have s21 : StW w9 g2 wd cp jn := by rw [hw9]; exact s2.other e2 _
      have s31 : StW w9 g3 wd cp jn := by rw [hw9]; exact s3.other e3 _
      have s41 : StW w9 g4 wd cp jn := by rw [hw9]; exact s4.other e4 _
      have ss1 : StIn w9 w4.heap.size wd cp jn := by rw [hw9]; exact ss.other (by omega) _
      have X9 : Below w4.heap.size w4 w9 := by rw [hw9]; exact bset X8 (Nat.le_of_lt e6) _
      rw [← hw9]
      clear hw9 s5 s1 s2 s3 s4 ss X8 f0 f1 f2
      have f0 := s21.c1
      have f1 := s21.fz 1
      have f2 := s21.lt
      have f3 := s31.c1
      have f4 := s31.fz 1
      have f5 := s31.lt
      go_upto_region 9 with (fail)
      obtain ⟨w10, hw10⟩ : ∃ w10 : World, w10 = (w9.setCell ⟨g2, 1, none⟩ (.int .i64 1)).setCell ⟨g3, 1, none⟩ (.int .i64 2) := ⟨_, rfl⟩
      have s52 : StW w10 g5 wd 0 jn := by rw [hw10]; exact (s51.other (Ne.symm e2) _).other (Ne.symm e3) _
      have s12 : StW w10 g1 (wd + P) cp jn := by rw [hw10]; exact (s11.other (Ne.symm n1) _).other (Ne.symm n2) _
      have s22 : StW w10 g2 wd 1 jn := by rw [hw10]; exact (s21.set1 _).other (Ne.symm n4) _
      have s32 : StW w10 g3 wd 2 jn := by rw [hw10]; exact (s31.other n4 _).set1 _
      have s42 : StW w10 g4 wd cp jn := by rw [hw10]; exact (s41.other n5 _).other n6 _
      have ss2 : StIn w10 w4.heap.size wd cp jn := by rw [hw10]; exact (ss1.other (by omega) _).other (by omega) _
      have X10 : Below w4.heap.size w4 w10 := by rw [hw10]; exact bset (bset X9 (by show w4.heap.size ≤ g2; omega) _) (by show w4.heap.size ≤ g3; omega) _
      rw [← hw10]
      clear hw10 s51 s11 s21 s31 s41 ss1 X9 f0 f1 f2 f3 f4 f5
      have f0 := s42.c2
      have f1 := s42.fz 2
      have f2 := s42.lt
      go_upto_region 10 with (fail)
      obtain ⟨w11, hw11⟩ : ∃ w11 : World, w11 = w10.setCell ⟨g4, 2, none⟩ (.int .i64 1) := ⟨_, rfl⟩
      have s53 : StW w11 g5 wd 0 jn := by rw [hw11]; exact s52.other (Ne.symm e4) _
      have s13 : StW w11 g1 (wd + P) cp jn := by rw [hw11]; exact s12.other (Ne.symm n3) _
      have s23 : StW w11 g2 wd 1 jn := by rw [hw11]; exact s22.other (Ne.symm n5) _
      have s33 : StW w11 g3 wd 2 jn := by rw [hw11]; exact s32.other (Ne.symm n6) _
      have s43 : StW w11 g4 wd cp 1 := by rw [hw11]; exact s42.set2 _
      have ss3 : StIn w11 w4.heap.size wd cp jn := by rw [hw11]; exact ss2.other (by omega) _
      have X11 : Below w4.heap.size w4 w11 := by rw [hw11]; exact bset X10 (by show w4.heap.size ≤ g4; omega) _
      rw [← hw11]
      clear hw11 s52 s12 s22 s32 s42 ss2 X10 f0 f1 f2
      clear e1 e2 e3 e4 e5 e6 l1 l2 l3 l4 n1 n2 n3 n4 n5 n6 hz5 hs4 HPL hwr
      have hpx := pntI_ok x
      have hpy := pntI_ok y
      obtain ⟨X, hX⟩ : ∃ X, X = pntI x := ⟨_, rfl⟩
      obtain ⟨Y, hY⟩ : ∃ Y, Y = pntI y := ⟨_, rfl⟩
      have hm1 : covL l ⟨wd, cp, jn⟩ (pntI x) (pntI y) = true → inL l ⟨wd + P, cp, jn⟩ (pntI x) (pntI y) = true ∧ inL l ⟨wd, cp, 1⟩ (pntI x) (pntI y) = true := fun hh => by
        rw [inL_made HLM.out HLK.out (by simp only; omega) (by simp only; omega) (by simp only; omega) (by omega) (by omega), inL_made HLM.out HLK.out (by simp only; omega) (by simp only; omega) (by simp only; omega) (by omega) (by omega)]
        exact ⟨covL_mono (s := ⟨wd, cp, jn⟩) ⟨v1, by simp only; omega, fun h => h, .inl rfl⟩ hh, covL_mono (s := ⟨wd, cp, jn⟩) ⟨v1, by simp only; omega, fun _ => rfl, .inl rfl⟩ hh⟩
      have hm2 : covL l ⟨wd, 0, jn⟩ (pntI x) (pntI y) = true → inL l ⟨wd, 1, jn⟩ (pntI x) (pntI y) = true ∧ inL l ⟨wd, 2, jn⟩ (pntI x) (pntI y) = true := fun hh => by
        rw [inL_made HLM.out HLK.out (by simp only; omega) (by simp only; omega) (by simp only; omega) (by omega) (by omega), inL_made HLM.out HLK.out (by simp only; omega) (by simp only; omega) (by simp only; omega) (by omega) (by omega)]
        exact ⟨covL_mono (s := ⟨wd, 0, jn⟩) ⟨v1, by simp only; omega, fun h => h, .inr rfl⟩ hh, covL_mono (s := ⟨wd, 0, jn⟩) ⟨v1, by simp only; omega, fun h => h, .inr rfl⟩ hh⟩
      rw [← inL_made HLM.out HLK.out (by simp only; omega) (by simp only; omega) (by simp only; omega) (by omega) (by omega)] at hm1 hm2
      obtain ⟨b, hb⟩ : ∃ b, inL l ⟨wd, cp, jn⟩ (pntI x) (pntI y) = b := ⟨_, rfl⟩
      obtain ⟨b0, hb0⟩ : ∃ b, inL l ⟨wd, 0, jn⟩ (pntI x) (pntI y) = b := ⟨_, rfl⟩
      rw [hb] at hm1
      rw [hb0] at hm2
      have HB := Lib.hid hb
      have HB0 := Lib.hid hb0
      clear hb hb0 hpx hpy hX hY
      have c10 := fun g : Grown w11 => g.cell s13.c0 s13.lt
      have c11 := fun g : Grown w11 => g.cell s13.c1 s13.lt
      have c12 := fun g : Grown w11 => g.cell s13.c2 s13.lt
      have c20 := fun g : Grown w11 => g.cell s23.c0 s23.lt
      have c21 := fun g : Grown w11 => g.cell s23.c1 s23.lt
      have c22 := fun g : Grown w11 => g.cell s23.c2 s23.lt
      have c30 := fun g : Grown w11 => g.cell s33.c0 s33.lt
      have c31 := fun g : Grown w11 => g.cell s33.c1 s33.lt
      have c32 := fun g : Grown w11 => g.cell s33.c2 s33.lt
      have c40 := fun g : Grown w11 => g.cell s43.c0 s43.lt
      have c41 := fun g : Grown w11 => g.cell s43.c1 s43.lt
      have c42 := fun g : Grown w11 => g.cell s43.c2 s43.lt
      have c50 := fun g : Grown w11 => g.cell s53.c0 s53.lt
      have c51 := fun g : Grown w11 => g.cell s53.c1 s53.lt
      have c52 := fun g : Grown w11 => g.cell s53.c2 s53.lt
      have c60 := fun g : Grown w11 => g.cell ss3.c0 ss3.lt
      have c61 := fun g : Grown w11 => g.cell ss3.c1 ss3.lt
      have c62 := fun g : Grown w11 => g.cell ss3.c2 ss3.lt
      have hE := fun g : Grown w11 => hp4.below (btr X11 g.below)
      refine wp_region_grown (by kernel_rfl) (by kernel_rfl) ?_
      repeat (go_big_quiet_step (first
        | (go_at_call 14; with_reducible exact Calls.grown_same (point_any _ _))
        | (go_at_call 13; with_reducible exact Calls.grown (In_st (l := l) _ HB.out (by omega) (hE _)))))
      refine wpQuiet_nil ?_
      intro _ hw'
      obtain ⟨xq, hw''⟩ := hw'
      subst hw''
      clear c10 c11 c12 c20 c21 c22 c30 c31 c32 c40 c41 c42 c50 c51 c52 c60 c61 c62 hE
      obtain ⟨w12, hw12⟩ : ∃ W, W = xq.world := ⟨_, rfl⟩
      have hb12 : Below w11.heap.size w11 w12 := by rw [hw12]; exact xq.below
      rw [← hw12]
      clear hw12 xq
      have s54 := s53.below hb12
      have s14 := s13.below hb12
      have s24 := s23.below hb12
      have s34 := s33.below hb12
      have s44 := s43.below hb12
      have ss4 := ss3.below hb12
      have X12 := btr X11 hb12
      clear s53 s13 s23 s33 s43 ss3 X11 hb12
      go_upto_region 11 with (fail)
      have c10 := fun g : Grown w12 => g.cell s14.c0 s14.lt
      have c11 := fun g : Grown w12 => g.cell s14.c1 s14.lt
      have c12 := fun g : Grown w12 => g.cell s14.c2 s14.lt
      have c20 := fun g : Grown w12 => g.cell s24.c0 s24.lt
      have c21 := fun g : Grown w12 => g.cell s24.c1 s24.lt
      have c22 := fun g : Grown w12 => g.cell s24.c2 s24.lt
      have c30 := fun g : Grown w12 => g.cell s34.c0 s34.lt
      have c31 := fun g : Grown w12 => g.cell s34.c1 s34.lt
      have c32 := fun g : Grown w12 => g.cell s34.c2 s34.lt
      have c40 := fun g : Grown w12 => g.cell s44.c0 s44.lt
      have c41 := fun g : Grown w12 => g.cell s44.c1 s44.lt
      have c42 := fun g : Grown w12 => g.cell s44.c2 s44.lt
      have c50 := fun g : Grown w12 => g.cell s54.c0 s54.lt
      have c51 := fun g : Grown w12 => g.cell s54.c1 s54.lt
      have c52 := fun g : Grown w12 => g.cell s54.c2 s54.lt
      have c60 := fun g : Grown w12 => g.cell ss4.c0 ss4.lt
      have c61 := fun g : Grown w12 => g.cell ss4.c1 ss4.lt
      have c62 := fun g : Grown w12 => g.cell ss4.c2 ss4.lt
      have hE := fun g : Grown w12 => hp4.below (btr X12 g.below)
      refine wp_region_grown (by kernel_rfl) (by kernel_rfl) ?_
      repeat (go_big_quiet_step (first
        | (go_at_call 14; with_reducible exact Calls.grown_same (point_any _ _))
        | (go_at_call 13; with_reducible exact Calls.grown (In_st (l := l) _ HB0.out (by omega) (hE _)))))
      refine wpQuiet_nil ?_
      intro _ hw'
      obtain ⟨xq, hw''⟩ := hw'
      subst hw''
      clear c10 c11 c12 c20 c21 c22 c30 c31 c32 c40 c41 c42 c50 c51 c52 c60 c61 c62 hE
      obtain ⟨w13, hw13⟩ : ∃ W, W = xq.world := ⟨_, rfl⟩
      have hb13 : Below w12.heap.size w12 w13 := by rw [hw13]; exact xq.below
      rw [← hw13]
      clear hw13 xq
      have s5 := s54.below hb13
      have s1 := s14.below hb13
      have s2 := s24.below hb13
      have s3 := s34.below hb13
      have s4 := s44.below hb13
      have ss := ss4.below hb13
      have X13 := btr X12 hb13
      clear s54 s14 s24 s34 s44 ss4 X12 hb13
      go_upto_region 12 with (fail)
      have c10 := fun g : Grown w13 => g.cell s1.c0 s1.lt
      have c11 := fun g : Grown w13 => g.cell s1.c1 s1.lt
      have c12 := fun g : Grown w13 => g.cell s1.c2 s1.lt
      have c20 := fun g : Grown w13 => g.cell s2.c0 s2.lt
      have c21 := fun g : Grown w13 => g.cell s2.c1 s2.lt
      have c22 := fun g : Grown w13 => g.cell s2.c2 s2.lt
      have c30 := fun g : Grown w13 => g.cell s3.c0 s3.lt
      have c31 := fun g : Grown w13 => g.cell s3.c1 s3.lt
      have c32 := fun g : Grown w13 => g.cell s3.c2 s3.lt
      have c40 := fun g : Grown w13 => g.cell s4.c0 s4.lt
      have c41 := fun g : Grown w13 => g.cell s4.c1 s4.lt
      have c42 := fun g : Grown w13 => g.cell s4.c2 s4.lt
      have c50 := fun g : Grown w13 => g.cell s5.c0 s5.lt
      have c51 := fun g : Grown w13 => g.cell s5.c1 s5.lt
      have c52 := fun g : Grown w13 => g.cell s5.c2 s5.lt
      have c60 := fun g : Grown w13 => g.cell ss.c0 ss.lt
      have c61 := fun g : Grown w13 => g.cell ss.c1 ss.lt
      have c62 := fun g : Grown w13 => g.cell ss.c2 ss.lt
      have hE := fun g : Grown w13 => hp4.below (btr X13 g.below)
      clear s1 s2 s3 s4 s5 ss
      cases b
      · cases b0
        · clear hm1 hm2
          refine wp_region_grown (by kernel_rfl) (by kernel_rfl) ?_
          repeat (go_big_quiet_step (first
            | (go_at_call 14; with_reducible exact Calls.grown_same (point_any _ _))
            | (go_at_call 13; with_reducible exact Calls.grown (In_st (l := l) _ HT.out (by omega) (hE _)))
            | (go_at_call 13; with_reducible exact Calls.grown (In_st (l := l) _ HJ.out (by omega) (hE _)))
            | (go_at_call 13; with_reducible exact Calls.grown (In_st (l := l) _ HR.out (by omega) (hE _)))
            | (go_at_call 13; with_reducible exact Calls.grown (In_st (l := l) _ HQ.out (by omega) (hE _)))))
          refine wpQuiet_nil ?_
          intro _ hw'
          obtain ⟨zq, hw''⟩ := hw'
          subst hw''
          go_wp2
          go_ret
          exact ⟨rfl, btr B4 (btr X13 zq.below)⟩
        · obtain ⟨hr, hq⟩ := hm2 rfl
          have HR := Lib.hid hr
          have HQ := Lib.hid hq
          clear hm1 hm2 hr hq
          refine wp_region_grown (by kernel_rfl) (by kernel_rfl) ?_
          repeat (go_big_quiet_step (first
            | (go_at_call 14; with_reducible exact Calls.grown_same (point_any _ _))
            | (go_at_call 13; with_reducible exact Calls.grown (In_st (l := l) _ HT.out (by omega) (hE _)))
            | (go_at_call 13; with_reducible exact Calls.grown (In_st (l := l) _ HJ.out (by omega) (hE _)))
            | (go_at_call 13; with_reducible exact Calls.grown (In_st (l := l) _ HR.out (by omega) (hE _)))
            | (go_at_call 13; with_reducible exact Calls.grown (In_st (l := l) _ HQ.out (by omega) (hE _)))))
          refine wpQuiet_nil ?_
          intro _ hw'
          obtain ⟨zq, hw''⟩ := hw'
          subst hw''
          go_wp2
          go_ret
          exact ⟨rfl, btr B4 (btr X13 zq.below)⟩
      · obtain ⟨ht, hj⟩ := hm1 rfl
        have HT := Lib.hid ht
        have HJ := Lib.hid hj
        clear hm1 ht hj
        cases b0
        · clear hm2
          refine wp_region_grown (by kernel_rfl) (by kernel_rfl) ?_
          repeat (go_big_quiet_step (first
            | (go_at_call 14; with_reducible exact Calls.grown_same (point_any _ _))
            | (go_at_call 13; with_reducible exact Calls.grown (In_st (l := l) _ HT.out (by omega) (hE _)))
            | (go_at_call 13; with_reducible exact Calls.grown (In_st (l := l) _ HJ.out (by omega) (hE _)))
            | (go_at_call 13; with_reducible exact Calls.grown (In_st (l := l) _ HR.out (by omega) (hE _)))
            | (go_at_call 13; with_reducible exact Calls.grown (In_st (l := l) _ HQ.out (by omega) (hE _)))))
          refine wpQuiet_nil ?_
          intro _ hw'
          obtain ⟨zq, hw''⟩ := hw'
          subst hw''
          go_wp2
          go_ret
          exact ⟨rfl, btr B4 (btr X13 zq.below)⟩
        · obtain ⟨hr, hq⟩ := hm2 rfl
          have HR := Lib.hid hr
          have HQ := Lib.hid hq
          clear hm2 hr hq
          refine wp_region_grown (by kernel_rfl) (by kernel_rfl) ?_
          repeat (go_big_quiet_step (first
            | (go_at_call 14; with_reducible exact Calls.grown_same (point_any _ _))
            | (go_at_call 13; with_reducible exact Calls.grown (In_st (l := l) _ HT.out (by omega) (hE _)))
            | (go_at_call 13; with_reducible exact Calls.grown (In_st (l := l) _ HJ.out (by omega) (hE _)))
            | (go_at_call 13; with_reducible exact Calls.grown (In_st (l := l) _ HR.out (by omega) (hE _)))
            | (go_at_call 13; with_reducible exact Calls.grown (In_st (l := l) _ HQ.out (by omega) (hE _)))))
          refine wpQuiet_nil ?_
          intro _ hw'
          obtain ⟨zq, hw''⟩ := hw'
          subst hw''
          go_wp2
          go_ret
          exact ⟨rfl, btr B4 (btr X13 zq.below)⟩
end Go.Proofs.Ytbbffeddlgfeiaa
