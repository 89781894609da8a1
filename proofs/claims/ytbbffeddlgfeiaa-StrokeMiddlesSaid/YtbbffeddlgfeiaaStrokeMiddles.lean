/- The walk of StrokeMiddles: it returns true. -/
import Derived.Test.YtbbffeddlgfeiaaStrokeWithin
import Derived.Test.YtbbffeddlgfeiaaAllP
namespace Go.Proofs.Ytbbffeddlgfeiaa
open Go.RowKit Go.BigFrame

/-- Four numbers in a block of their own. -/
structure A4 (w : World) (g : Nat) (a b c d : Int) : Prop where
  lt : g < w.heap.size
  c0 : w.cell? ⟨g, 0, none⟩ = some (.int .i64 a)
  c1 : w.cell? ⟨g, 1, none⟩ = some (.int .i64 b)
  c2 : w.cell? ⟨g, 2, none⟩ = some (.int .i64 c)
  c3 : w.cell? ⟨g, 3, none⟩ = some (.int .i64 d)
  fz : ∀ j, w.frozen? ⟨g, j, none⟩ = false
section
variable {w w' : World} {g : Nat} {a b c d v : Int}
theorem A4.below (h : A4 w g a b c d) (hb : Below w.heap.size w w') : A4 w' g a b c d :=
  ⟨Nat.lt_of_lt_of_le h.lt hb.size, (later_cell hb h.lt).trans h.c0, (later_cell hb h.lt).trans h.c1, (later_cell hb h.lt).trans h.c2, (later_cell hb h.lt).trans h.c3, fun j => (later_frozen hb h.lt).trans (h.fz j)⟩
theorem A4.far (h : A4 w g a b c d) {g' j : Nat} (hne : g' ≠ g) (x : Value) : A4 (w.setCell ⟨g', j, none⟩ x) g a b c d :=
  ⟨by simpa [World.setCell] using h.lt, (World.cell?_setCell_far _ _ _ _ hne).trans h.c0, (World.cell?_setCell_far _ _ _ _ hne).trans h.c1, (World.cell?_setCell_far _ _ _ _ hne).trans h.c2, (World.cell?_setCell_far _ _ _ _ hne).trans h.c3, fun j => by rw [World.frozen?_setCell]; exact h.fz j⟩
theorem A4.set0 (h : A4 w g a b c d) : A4 (w.setCell ⟨g, 0, none⟩ (.int .i64 v)) g v b c d :=
  ⟨by simpa [World.setCell] using h.lt, World.cell?_setCell_same _ _ _ h.c0, (World.cell?_setCell_other _ _ _ _ (by simp)).trans h.c1, (World.cell?_setCell_other _ _ _ _ (by simp)).trans h.c2, (World.cell?_setCell_other _ _ _ _ (by simp)).trans h.c3, fun j => by rw [World.frozen?_setCell]; exact h.fz j⟩
theorem A4.set1 (h : A4 w g a b c d) : A4 (w.setCell ⟨g, 1, none⟩ (.int .i64 v)) g a v c d :=
  ⟨by simpa [World.setCell] using h.lt, (World.cell?_setCell_other _ _ _ _ (by simp)).trans h.c0, World.cell?_setCell_same _ _ _ h.c1, (World.cell?_setCell_other _ _ _ _ (by simp)).trans h.c2, (World.cell?_setCell_other _ _ _ _ (by simp)).trans h.c3, fun j => by rw [World.frozen?_setCell]; exact h.fz j⟩
theorem A4.set2 (h : A4 w g a b c d) : A4 (w.setCell ⟨g, 2, none⟩ (.int .i64 v)) g a b v d :=
  ⟨by simpa [World.setCell] using h.lt, (World.cell?_setCell_other _ _ _ _ (by simp)).trans h.c0, (World.cell?_setCell_other _ _ _ _ (by simp)).trans h.c1, World.cell?_setCell_same _ _ _ h.c2, (World.cell?_setCell_other _ _ _ _ (by simp)).trans h.c3, fun j => by rw [World.frozen?_setCell]; exact h.fz j⟩
theorem A4.set3 (h : A4 w g a b c d) : A4 (w.setCell ⟨g, 3, none⟩ (.int .i64 v)) g a b c v :=
  ⟨by simpa [World.setCell] using h.lt, (World.cell?_setCell_other _ _ _ _ (by simp)).trans h.c0, (World.cell?_setCell_other _ _ _ _ (by simp)).trans h.c1, (World.cell?_setCell_other _ _ _ _ (by simp)).trans h.c2, World.cell?_setCell_same _ _ _ h.c3, fun j => by rw [World.frozen?_setCell]; exact h.fz j⟩
end
theorem StIn.new2 {w : World} {t : TypeId} {g : Nat} (hg : w.heap.size = g) (a b c : Int) : StIn (w.alloc (.cells #[.int .i64 a, .int .i64 b, .int .i64 c] t)) g a b c := by
  subst hg; exact StIn.new a b c
theorem field_wide2 (a b c : Int) (w : World) : (Instr.field 27 (.agg #[.int .i64 a, .int .i64 b, .int .i64 c]) 0).run Try.prog w = .ok (.int .i64 a) w := by kernel_rfl
/-- A number that has been made small. -/
def Sm (v : Int) : Prop := -20 ≤ v ∧ v ≤ 139

set_option maxRecDepth 100000 in
set_option maxHeartbeats 4000000 in
theorem StrokeMiddles_any (a0 a1 a2 a3 v : Int) (round : Bool) (x y : Int) (w : World) :
    Calls Try.prog 5 #[.agg #[.int .i64 a0, .int .i64 a1, .int .i64 a2, .int .i64 a3], .int .i64 v, .bool round, .int .i64 x, .int .i64 y] w fun e w' => e = .returned (.bool true) ∧ Below w.heap.size w w' := by
  go_enter Try.func5, Try.ntmps5
  go_wp2_with fail
  obtain ⟨w0, hw0⟩ : ∃ w0 : World, w0 = w.alloc (.cells #[.int .i64 a0, .int .i64 a1, .int .i64 a2, .int .i64 a3] 37) := ⟨_, rfl⟩
  rw [← hw0]
  have hst : A4 w0 w.heap.size a0 a1 a2 a3 := by rw [hw0]; exact ⟨by simp, new_cell _ 0, new_cell _ 1, new_cell _ 2, new_cell _ 3, fun j => by simp⟩
  have B0 : Below w.heap.size w w0 := by rw [hw0]; exact bal (Below.refl _ _) _
  clear hw0
  refine (known33_any _).mono ?_; rintro e w1 ⟨rfl, hb1⟩
  have B1 := btr B0 hb1
  have hst1 := hst.below hb1
  clear hst hb1 B0
  go_wp2
  go_loopw [11] (fun i wr => ∃ (k : Nat) (b0 b1 b2 b3 : Int), k ≤ 4 ∧ i = .int .i64 (k : Int) ∧ Below w.heap.size w wr ∧ A4 wr w.heap.size b0 b1 b2 b3 ∧ (0 < k → Sm b0) ∧ (1 < k → Sm b1) ∧ (2 < k → Sm b2) ∧ (3 < k → Sm b3)) (fun i _ => 4 - (intOf i).toNat)
  case atStart => exact ⟨0, a0, a1, a2, a3, by omega, rfl, B1, hst1, by omega, by omega, by omega, by omega⟩
  case round =>
    clear hst1
    obtain ⟨wo, rfl⟩ : ∃ wo : World, wo = wr := ⟨_, rfl⟩
    obtain ⟨k, b0, b1, b2, b3, hk, rfl, hbr, ha, m0, m1, m2, m3⟩ := hrel
    have hk5 : k = 0 ∨ k = 1 ∨ k = 2 ∨ k = 3 ∨ k = 4 := by omega
    rcases hk5 with rfl | rfl | rfl | rfl | rfl
    · obtain ⟨hlt, t0, t1, t2, t3, hfz⟩ := ha
      have hf := hfz 0
      go_wp2_with fail
      refine (Place_any b0 160 _ (by omega) (by omega)).mono ?_; rintro e w' ⟨rfl, rfl⟩
      have hp : 0 ≤ placeI b0 160 ∧ placeI b0 160 < 160 := by unfold placeI; omega
      generalize placeI b0 160 = z at *
      obtain ⟨hp0, hp1⟩ := hp
      have hnew := A4.set0 (v := z - 20) (A4.mk hlt t0 t1 t2 t3 hfz)
      have hbn := bset hbr (p := ⟨w.heap.size, 0, none⟩) (Nat.le_refl _) (.int .i64 (z - 20))
      have HNEW := Lib.hid hnew
      have HBN := Lib.hid hbn
      have HZ : Sm (z - 20) := ⟨by omega, by omega⟩
      clear hnew hbn hfz hbr
      go_wp2
      go_roundw
      case rel => exact ⟨0 + 1, z - 20, b1, b2, b3, by omega, rfl, HBN.out, HNEW.out, (fun _ => HZ), (fun h => by omega), (fun h => by omega), (fun h => by omega)⟩
      case measure => simp [intOf]
    · obtain ⟨hlt, t0, t1, t2, t3, hfz⟩ := ha
      have hf := hfz 1
      go_wp2_with fail
      refine (Place_any b1 160 _ (by omega) (by omega)).mono ?_; rintro e w' ⟨rfl, rfl⟩
      have hp : 0 ≤ placeI b1 160 ∧ placeI b1 160 < 160 := by unfold placeI; omega
      generalize placeI b1 160 = z at *
      obtain ⟨hp0, hp1⟩ := hp
      have hnew := A4.set1 (v := z - 20) (A4.mk hlt t0 t1 t2 t3 hfz)
      have hbn := bset hbr (p := ⟨w.heap.size, 1, none⟩) (Nat.le_refl _) (.int .i64 (z - 20))
      have HNEW := Lib.hid hnew
      have HBN := Lib.hid hbn
      have HZ : Sm (z - 20) := ⟨by omega, by omega⟩
      clear hnew hbn hfz hbr
      go_wp2
      go_roundw
      case rel => exact ⟨1 + 1, b0, z - 20, b2, b3, by omega, rfl, HBN.out, HNEW.out, (fun _ => m0 (by omega)), (fun _ => HZ), (fun h => by omega), (fun h => by omega)⟩
      case measure => simp [intOf]
    · obtain ⟨hlt, t0, t1, t2, t3, hfz⟩ := ha
      have hf := hfz 2
      go_wp2_with fail
      refine (Place_any b2 160 _ (by omega) (by omega)).mono ?_; rintro e w' ⟨rfl, rfl⟩
      have hp : 0 ≤ placeI b2 160 ∧ placeI b2 160 < 160 := by unfold placeI; omega
      generalize placeI b2 160 = z at *
      obtain ⟨hp0, hp1⟩ := hp
      have hnew := A4.set2 (v := z - 20) (A4.mk hlt t0 t1 t2 t3 hfz)
      have hbn := bset hbr (p := ⟨w.heap.size, 2, none⟩) (Nat.le_refl _) (.int .i64 (z - 20))
      have HNEW := Lib.hid hnew
      have HBN := Lib.hid hbn
      have HZ : Sm (z - 20) := ⟨by omega, by omega⟩
      clear hnew hbn hfz hbr
      go_wp2
      go_roundw
      case rel => exact ⟨2 + 1, b0, b1, z - 20, b3, by omega, rfl, HBN.out, HNEW.out, (fun _ => m0 (by omega)), (fun _ => m1 (by omega)), (fun _ => HZ), (fun h => by omega)⟩
      case measure => simp [intOf]
    · obtain ⟨hlt, t0, t1, t2, t3, hfz⟩ := ha
      have hf := hfz 3
      go_wp2_with fail
      refine (Place_any b3 160 _ (by omega) (by omega)).mono ?_; rintro e w' ⟨rfl, rfl⟩
      have hp : 0 ≤ placeI b3 160 ∧ placeI b3 160 < 160 := by unfold placeI; omega
      generalize placeI b3 160 = z at *
      obtain ⟨hp0, hp1⟩ := hp
      have hnew := A4.set3 (v := z - 20) (A4.mk hlt t0 t1 t2 t3 hfz)
      have hbn := bset hbr (p := ⟨w.heap.size, 3, none⟩) (Nat.le_refl _) (.int .i64 (z - 20))
      have HNEW := Lib.hid hnew
      have HBN := Lib.hid hbn
      have HZ : Sm (z - 20) := ⟨by omega, by omega⟩
      clear hnew hbn hfz hbr
      go_wp2
      go_roundw
      case rel => exact ⟨3 + 1, b0, b1, b2, z - 20, by omega, rfl, HBN.out, HNEW.out, (fun _ => m0 (by omega)), (fun _ => m1 (by omega)), (fun _ => m2 (by omega)), (fun _ => HZ)⟩
      case measure => simp [intOf]
    · have n0 := m0 (by omega)
      have n1 := m1 (by omega)
      have n2 := m2 (by omega)
      have n3 := m3 (by omega)
      clear m0 m1 m2 m3
      go_wp2_with fail
      refine (Style_any v _).mono ?_; rintro e w4 ⟨rfl, hb4⟩
      have B4 := btr hbr hb4
      obtain ⟨hlt, t0, t1, t2, t3, hfz⟩ := ha.below hb4
      have hf2 := hfz 2
      have hso := styI_ok v
      obtain ⟨s, hs⟩ : ∃ s, s = styI v := ⟨_, rfl⟩
      rw [← hs] at hso ⊢
      clear hs hb4 hbr ha B1
      obtain ⟨wd, cp, jn⟩ := s
      simp only at hso
      simp only [syc]
      have hfd := fun W => field_wide2 wd cp jn W
      have hpx := pntI_ok x
      have hpy := pntI_ok y
      obtain ⟨n00, n01⟩ := n0
      obtain ⟨n10, n11⟩ := n1
      obtain ⟨n20, n21⟩ := n2
      obtain ⟨n30, n31⟩ := n3
      cases round
      · by_cases heq : b0 = b2 ∧ b1 = b3
        · obtain ⟨rfl, rfl⟩ := heq
          go_upto_region 12 with (fail)
          obtain ⟨W5, hW5⟩ : ∃ W5 : World, W5 = (w4.setCell ⟨w.heap.size, 2, none⟩ (.int .i64 (b0 + 1))).alloc (.cells #[.int .i64 wd, .int .i64 0, .int .i64 0] 27) := ⟨_, rfl⟩
          rw [← hW5]
          have ha5 : A4 W5 w.heap.size b0 b1 (b0 + 1) (b1) := by rw [hW5]; exact (A4.set2 (A4.mk hlt t0 t1 t2 t3 hfz)).below (bal (Below.refl _ _) _)
          have hs5 : StIn W5 w4.heap.size wd (0) 0 := by rw [hW5]; exact StIn.new2 (by simp [World.setCell]) _ _ _
          have B5 : Below w.heap.size w W5 := by rw [hW5]; exact bal (bset B4 (p := ⟨w.heap.size, 2, none⟩) (Nat.le_refl _) _) _
          clear hW5 hlt t0 t1 t2 t3 hfz hf2 hfd B4
          obtain ⟨hlt, t0, t1, t2, t3, -⟩ := ha5
          obtain ⟨ys, y0, y1, y2⟩ := hs5
          have hne : ¬ (b0 = (b0 + 1) ∧ b1 = (b1)) := by omega
          have hcov := mid_cov (a := b0) (b := b1) (c := b0 + 1) (d := b1) (w := wd) (x := pntI x) (y := pntI y) (co_iff.2 (by omega)) (co_iff.2 (by omega)) (co_iff.2 (by omega)) (co_iff.2 (by omega)) (co_iff.2 (by omega)) (co_iff.2 (by omega)) hne (0) (by omega)
          rw [← inL_made (oneL_may (co_iff.2 (by omega)) (co_iff.2 (by omega)) (co_iff.2 (by omega)) (co_iff.2 (by omega))) (oneL_nobow _ _ _ _) (by simp only; omega) (by simp only; omega) (by simp only; omega) (by omega) (by omega), ← inL_made (oneL_may (co_iff.2 (by omega)) (co_iff.2 (by omega)) (co_iff.2 (by omega)) (co_iff.2 (by omega))) (oneL_nobow _ _ _ _) (by simp only; omega) (by simp only; omega) (by simp only; omega) (by omega) (by omega), ← inL_made (oneL_may (co_iff.2 (by omega)) (co_iff.2 (by omega)) (co_iff.2 (by omega)) (co_iff.2 (by omega))) (oneL_nobow _ _ _ _) (by simp only; omega) (by simp only; omega) (by simp only; omega) (by omega) (by omega)] at hcov
          obtain ⟨v1, hv1⟩ : ∃ b, b = inL (oneL (2 * b0) (2 * b1) (2 * (b0 + 1)) (2 * (b1))) ⟨wd, 0, 0⟩ (pntI x) (pntI y) := ⟨_, rfl⟩
          obtain ⟨v2, hv2⟩ : ∃ b, b = inL (oneL (2 * b0) (2 * b1) (b0 + (b0 + 1)) (b1 + (b1))) ⟨wd, 0, 0⟩ (pntI x) (pntI y) := ⟨_, rfl⟩
          obtain ⟨v3, hv3⟩ : ∃ b, b = inL (oneL (b0 + (b0 + 1)) (b1 + (b1)) (2 * (b0 + 1)) (2 * (b1))) ⟨wd, 0, 0⟩ (pntI x) (pntI y) := ⟨_, rfl⟩
          rw [← hv1, ← hv2, ← hv3] at hcov
          have HCOV := Lib.hid hcov
          have HV1 := Lib.hid hv1.symm
          have HV2 := Lib.hid hv2.symm
          have HV3 := Lib.hid hv3.symm
          clear hcov hv1 hv2 hv3 hne
          have z1 : w.heap.size < W5.heap.size + 1 := by omega
          have z2 : w.heap.size < W5.heap.size + 1 + 1 := by omega
          have z3 : w4.heap.size < W5.heap.size + 1 := by omega
          have z4 : w4.heap.size < W5.heap.size + 1 + 1 := by omega
          have z5 : w4.heap.size < W5.heap.size + 1 + 1 + 1 := by omega
          go_wp2_with fail
          refine (point_any x _).mono ?_; rintro e w6 ⟨rfl, rfl⟩
          go_wp2_with fail
          refine (point_any y _).mono ?_; rintro e w6 ⟨rfl, rfl⟩
          go_wp2_with fail
          refine (In_st (l := oneL (2 * b0) (2 * b1) (2 * (b0 + 1)) (2 * (b1))) _ HV1.out (by omega) ((sl_newN (sgs (oneL (2 * b0) (2 * b1) (2 * (b0 + 1)) (2 * (b1)))) rfl rfl).below (bal (bal (Below.refl _ _) _) _))).mono ?_; rintro e w8 ⟨rfl, hb8⟩
          have hb58 := btr (bal (bal (bal (Below.refl W5.heap.size W5) _) _) _) hb8
          have hp8 : Sl w8 5 (some ⟨W5.heap.size + 1, 0, none⟩) 2 (sgs (oneL (2 * b0) (2 * b1) (b0 + (b0 + 1)) (b1 + (b1)))) := ((sl_newN (sgs (oneL (2 * b0) (2 * b1) (b0 + (b0 + 1)) (b1 + (b1)))) (by simp) rfl).below (bal (Below.refl _ _) _)).below hb8
          have hq8 : Sl w8 5 (some ⟨W5.heap.size + 1 + 1, 0, none⟩) 2 (sgs (oneL (b0 + (b0 + 1)) (b1 + (b1)) (2 * (b0 + 1)) (2 * (b1)))) := (sl_newN (sgs (oneL (b0 + (b0 + 1)) (b1 + (b1)) (2 * (b0 + 1)) (2 * (b1)))) (by simp) rfl).below hb8
          replace y0 := (later_cell hb58 ys).trans y0
          replace y1 := (later_cell hb58 ys).trans y1
          replace y2 := (later_cell hb58 ys).trans y2
          have B8 := btr B5 hb58
          have ys8 := Nat.lt_of_lt_of_le ys hb58.size
          clear hb8 hb58 B5 t0 t1 t2 t3 z1 z2 z3 z4 z5
          go_wp2_with fail
          refine (In_st (l := oneL (2 * b0) (2 * b1) (b0 + (b0 + 1)) (b1 + (b1))) _ HV2.out (by omega) hp8).mono ?_; rintro e w9 ⟨rfl, hb9⟩
          replace y0 := (later_cell hb9 ys8).trans y0
          replace y1 := (later_cell hb9 ys8).trans y1
          replace y2 := (later_cell hb9 ys8).trans y2
          replace hq8 := hq8.below hb9
          have B9 := btr B8 hb9
          clear hb9 B8 hp8
          cases v2
          · go_wp2_with fail
            refine (In_st (l := oneL (b0 + (b0 + 1)) (b1 + (b1)) (2 * (b0 + 1)) (2 * (b1))) _ HV3.out (by omega) hq8).mono ?_; rintro e w10 ⟨rfl, hb10⟩
            go_wp2
            go_ret
            exact ⟨ret_b (by rw [HCOV.out]; simp), btr B9 hb10⟩
          · go_wp2
            go_ret
            exact ⟨ret_b (by rw [HCOV.out]; simp), B9⟩
        · by_cases h02 : b0 = b2
          · have q1 : (b0 == b2) = true := by simp [h02]
            have q2 : (b1 == b3) = false := by simp; omega
            clear h02
            go_upto_region 12 with (fail)
            obtain ⟨W5, hW5⟩ : ∃ W5 : World, W5 = w4.alloc (.cells #[.int .i64 wd, .int .i64 0, .int .i64 0] 27) := ⟨_, rfl⟩
            rw [← hW5]
            have ha5 : A4 W5 w.heap.size b0 b1 (b2) (b3) := by rw [hW5]; exact (A4.mk hlt t0 t1 t2 t3 hfz).below (bal (Below.refl _ _) _)
            have hs5 : StIn W5 w4.heap.size wd (0) 0 := by rw [hW5]; exact StIn.new _ _ _
            have B5 : Below w.heap.size w W5 := by rw [hW5]; exact bal B4 _
            clear hW5 hlt t0 t1 t2 t3 hfz hf2 hfd B4
            obtain ⟨hlt, t0, t1, t2, t3, -⟩ := ha5
            obtain ⟨ys, y0, y1, y2⟩ := hs5
            have hne : ¬ (b0 = (b2) ∧ b1 = (b3)) := by omega
            have hcov := mid_cov (a := b0) (b := b1) (c := b2) (d := b3) (w := wd) (x := pntI x) (y := pntI y) (co_iff.2 (by omega)) (co_iff.2 (by omega)) (co_iff.2 (by omega)) (co_iff.2 (by omega)) (co_iff.2 (by omega)) (co_iff.2 (by omega)) hne (0) (by omega)
            rw [← inL_made (oneL_may (co_iff.2 (by omega)) (co_iff.2 (by omega)) (co_iff.2 (by omega)) (co_iff.2 (by omega))) (oneL_nobow _ _ _ _) (by simp only; omega) (by simp only; omega) (by simp only; omega) (by omega) (by omega), ← inL_made (oneL_may (co_iff.2 (by omega)) (co_iff.2 (by omega)) (co_iff.2 (by omega)) (co_iff.2 (by omega))) (oneL_nobow _ _ _ _) (by simp only; omega) (by simp only; omega) (by simp only; omega) (by omega) (by omega), ← inL_made (oneL_may (co_iff.2 (by omega)) (co_iff.2 (by omega)) (co_iff.2 (by omega)) (co_iff.2 (by omega))) (oneL_nobow _ _ _ _) (by simp only; omega) (by simp only; omega) (by simp only; omega) (by omega) (by omega)] at hcov
            obtain ⟨v1, hv1⟩ : ∃ b, b = inL (oneL (2 * b0) (2 * b1) (2 * (b2)) (2 * (b3))) ⟨wd, 0, 0⟩ (pntI x) (pntI y) := ⟨_, rfl⟩
            obtain ⟨v2, hv2⟩ : ∃ b, b = inL (oneL (2 * b0) (2 * b1) (b0 + (b2)) (b1 + (b3))) ⟨wd, 0, 0⟩ (pntI x) (pntI y) := ⟨_, rfl⟩
            obtain ⟨v3, hv3⟩ : ∃ b, b = inL (oneL (b0 + (b2)) (b1 + (b3)) (2 * (b2)) (2 * (b3))) ⟨wd, 0, 0⟩ (pntI x) (pntI y) := ⟨_, rfl⟩
            rw [← hv1, ← hv2, ← hv3] at hcov
            have HCOV := Lib.hid hcov
            have HV1 := Lib.hid hv1.symm
            have HV2 := Lib.hid hv2.symm
            have HV3 := Lib.hid hv3.symm
            clear hcov hv1 hv2 hv3 hne
            have z1 : w.heap.size < W5.heap.size + 1 := by omega
            have z2 : w.heap.size < W5.heap.size + 1 + 1 := by omega
            have z3 : w4.heap.size < W5.heap.size + 1 := by omega
            have z4 : w4.heap.size < W5.heap.size + 1 + 1 := by omega
            have z5 : w4.heap.size < W5.heap.size + 1 + 1 + 1 := by omega
            go_wp2_with fail
            refine (point_any x _).mono ?_; rintro e w6 ⟨rfl, rfl⟩
            go_wp2_with fail
            refine (point_any y _).mono ?_; rintro e w6 ⟨rfl, rfl⟩
            go_wp2_with fail
            refine (In_st (l := oneL (2 * b0) (2 * b1) (2 * (b2)) (2 * (b3))) _ HV1.out (by omega) ((sl_newN (sgs (oneL (2 * b0) (2 * b1) (2 * (b2)) (2 * (b3)))) rfl rfl).below (bal (bal (Below.refl _ _) _) _))).mono ?_; rintro e w8 ⟨rfl, hb8⟩
            have hb58 := btr (bal (bal (bal (Below.refl W5.heap.size W5) _) _) _) hb8
            have hp8 : Sl w8 5 (some ⟨W5.heap.size + 1, 0, none⟩) 2 (sgs (oneL (2 * b0) (2 * b1) (b0 + (b2)) (b1 + (b3)))) := ((sl_newN (sgs (oneL (2 * b0) (2 * b1) (b0 + (b2)) (b1 + (b3)))) (by simp) rfl).below (bal (Below.refl _ _) _)).below hb8
            have hq8 : Sl w8 5 (some ⟨W5.heap.size + 1 + 1, 0, none⟩) 2 (sgs (oneL (b0 + (b2)) (b1 + (b3)) (2 * (b2)) (2 * (b3)))) := (sl_newN (sgs (oneL (b0 + (b2)) (b1 + (b3)) (2 * (b2)) (2 * (b3)))) (by simp) rfl).below hb8
            replace y0 := (later_cell hb58 ys).trans y0
            replace y1 := (later_cell hb58 ys).trans y1
            replace y2 := (later_cell hb58 ys).trans y2
            have B8 := btr B5 hb58
            have ys8 := Nat.lt_of_lt_of_le ys hb58.size
            clear hb8 hb58 B5 t0 t1 t2 t3 z1 z2 z3 z4 z5
            go_wp2_with fail
            refine (In_st (l := oneL (2 * b0) (2 * b1) (b0 + (b2)) (b1 + (b3))) _ HV2.out (by omega) hp8).mono ?_; rintro e w9 ⟨rfl, hb9⟩
            replace y0 := (later_cell hb9 ys8).trans y0
            replace y1 := (later_cell hb9 ys8).trans y1
            replace y2 := (later_cell hb9 ys8).trans y2
            replace hq8 := hq8.below hb9
            have B9 := btr B8 hb9
            clear hb9 B8 hp8
            cases v2
            · go_wp2_with fail
              refine (In_st (l := oneL (b0 + (b2)) (b1 + (b3)) (2 * (b2)) (2 * (b3))) _ HV3.out (by omega) hq8).mono ?_; rintro e w10 ⟨rfl, hb10⟩
              go_wp2
              go_ret
              exact ⟨ret_b (by rw [HCOV.out]; simp), btr B9 hb10⟩
            · go_wp2
              go_ret
              exact ⟨ret_b (by rw [HCOV.out]; simp), B9⟩
          · have q1 : (b0 == b2) = false := by simp [h02]
            clear h02
            go_upto_region 12 with (fail)
            obtain ⟨W5, hW5⟩ : ∃ W5 : World, W5 = w4.alloc (.cells #[.int .i64 wd, .int .i64 0, .int .i64 0] 27) := ⟨_, rfl⟩
            rw [← hW5]
            have ha5 : A4 W5 w.heap.size b0 b1 (b2) (b3) := by rw [hW5]; exact (A4.mk hlt t0 t1 t2 t3 hfz).below (bal (Below.refl _ _) _)
            have hs5 : StIn W5 w4.heap.size wd (0) 0 := by rw [hW5]; exact StIn.new _ _ _
            have B5 : Below w.heap.size w W5 := by rw [hW5]; exact bal B4 _
            clear hW5 hlt t0 t1 t2 t3 hfz hf2 hfd B4
            obtain ⟨hlt, t0, t1, t2, t3, -⟩ := ha5
            obtain ⟨ys, y0, y1, y2⟩ := hs5
            have hne : ¬ (b0 = (b2) ∧ b1 = (b3)) := by omega
            have hcov := mid_cov (a := b0) (b := b1) (c := b2) (d := b3) (w := wd) (x := pntI x) (y := pntI y) (co_iff.2 (by omega)) (co_iff.2 (by omega)) (co_iff.2 (by omega)) (co_iff.2 (by omega)) (co_iff.2 (by omega)) (co_iff.2 (by omega)) hne (0) (by omega)
            rw [← inL_made (oneL_may (co_iff.2 (by omega)) (co_iff.2 (by omega)) (co_iff.2 (by omega)) (co_iff.2 (by omega))) (oneL_nobow _ _ _ _) (by simp only; omega) (by simp only; omega) (by simp only; omega) (by omega) (by omega), ← inL_made (oneL_may (co_iff.2 (by omega)) (co_iff.2 (by omega)) (co_iff.2 (by omega)) (co_iff.2 (by omega))) (oneL_nobow _ _ _ _) (by simp only; omega) (by simp only; omega) (by simp only; omega) (by omega) (by omega), ← inL_made (oneL_may (co_iff.2 (by omega)) (co_iff.2 (by omega)) (co_iff.2 (by omega)) (co_iff.2 (by omega))) (oneL_nobow _ _ _ _) (by simp only; omega) (by simp only; omega) (by simp only; omega) (by omega) (by omega)] at hcov
            obtain ⟨v1, hv1⟩ : ∃ b, b = inL (oneL (2 * b0) (2 * b1) (2 * (b2)) (2 * (b3))) ⟨wd, 0, 0⟩ (pntI x) (pntI y) := ⟨_, rfl⟩
            obtain ⟨v2, hv2⟩ : ∃ b, b = inL (oneL (2 * b0) (2 * b1) (b0 + (b2)) (b1 + (b3))) ⟨wd, 0, 0⟩ (pntI x) (pntI y) := ⟨_, rfl⟩
            obtain ⟨v3, hv3⟩ : ∃ b, b = inL (oneL (b0 + (b2)) (b1 + (b3)) (2 * (b2)) (2 * (b3))) ⟨wd, 0, 0⟩ (pntI x) (pntI y) := ⟨_, rfl⟩
            rw [← hv1, ← hv2, ← hv3] at hcov
            have HCOV := Lib.hid hcov
            have HV1 := Lib.hid hv1.symm
            have HV2 := Lib.hid hv2.symm
            have HV3 := Lib.hid hv3.symm
            clear hcov hv1 hv2 hv3 hne
            have z1 : w.heap.size < W5.heap.size + 1 := by omega
            have z2 : w.heap.size < W5.heap.size + 1 + 1 := by omega
            have z3 : w4.heap.size < W5.heap.size + 1 := by omega
            have z4 : w4.heap.size < W5.heap.size + 1 + 1 := by omega
            have z5 : w4.heap.size < W5.heap.size + 1 + 1 + 1 := by omega
            go_wp2_with fail
            refine (point_any x _).mono ?_; rintro e w6 ⟨rfl, rfl⟩
            go_wp2_with fail
            refine (point_any y _).mono ?_; rintro e w6 ⟨rfl, rfl⟩
            go_wp2_with fail
            refine (In_st (l := oneL (2 * b0) (2 * b1) (2 * (b2)) (2 * (b3))) _ HV1.out (by omega) ((sl_newN (sgs (oneL (2 * b0) (2 * b1) (2 * (b2)) (2 * (b3)))) rfl rfl).below (bal (bal (Below.refl _ _) _) _))).mono ?_; rintro e w8 ⟨rfl, hb8⟩
            have hb58 := btr (bal (bal (bal (Below.refl W5.heap.size W5) _) _) _) hb8
            have hp8 : Sl w8 5 (some ⟨W5.heap.size + 1, 0, none⟩) 2 (sgs (oneL (2 * b0) (2 * b1) (b0 + (b2)) (b1 + (b3)))) := ((sl_newN (sgs (oneL (2 * b0) (2 * b1) (b0 + (b2)) (b1 + (b3)))) (by simp) rfl).below (bal (Below.refl _ _) _)).below hb8
            have hq8 : Sl w8 5 (some ⟨W5.heap.size + 1 + 1, 0, none⟩) 2 (sgs (oneL (b0 + (b2)) (b1 + (b3)) (2 * (b2)) (2 * (b3)))) := (sl_newN (sgs (oneL (b0 + (b2)) (b1 + (b3)) (2 * (b2)) (2 * (b3)))) (by simp) rfl).below hb8
            replace y0 := (later_cell hb58 ys).trans y0
            replace y1 := (later_cell hb58 ys).trans y1
            replace y2 := (later_cell hb58 ys).trans y2
            have B8 := btr B5 hb58
            have ys8 := Nat.lt_of_lt_of_le ys hb58.size
            clear hb8 hb58 B5 t0 t1 t2 t3 z1 z2 z3 z4 z5
            go_wp2_with fail
            refine (In_st (l := oneL (2 * b0) (2 * b1) (b0 + (b2)) (b1 + (b3))) _ HV2.out (by omega) hp8).mono ?_; rintro e w9 ⟨rfl, hb9⟩
            replace y0 := (later_cell hb9 ys8).trans y0
            replace y1 := (later_cell hb9 ys8).trans y1
            replace y2 := (later_cell hb9 ys8).trans y2
            replace hq8 := hq8.below hb9
            have B9 := btr B8 hb9
            clear hb9 B8 hp8
            cases v2
            · go_wp2_with fail
              refine (In_st (l := oneL (b0 + (b2)) (b1 + (b3)) (2 * (b2)) (2 * (b3))) _ HV3.out (by omega) hq8).mono ?_; rintro e w10 ⟨rfl, hb10⟩
              go_wp2
              go_ret
              exact ⟨ret_b (by rw [HCOV.out]; simp), btr B9 hb10⟩
            · go_wp2
              go_ret
              exact ⟨ret_b (by rw [HCOV.out]; simp), B9⟩
      · by_cases heq : b0 = b2 ∧ b1 = b3
        · obtain ⟨rfl, rfl⟩ := heq
          go_upto_region 12 with (fail)
          obtain ⟨W5, hW5⟩ : ∃ W5 : World, W5 = (w4.setCell ⟨w.heap.size, 2, none⟩ (.int .i64 (b0 + 1))).alloc (.cells #[.int .i64 wd, .int .i64 1, .int .i64 0] 27) := ⟨_, rfl⟩
          rw [← hW5]
          have ha5 : A4 W5 w.heap.size b0 b1 (b0 + 1) (b1) := by rw [hW5]; exact (A4.set2 (A4.mk hlt t0 t1 t2 t3 hfz)).below (bal (Below.refl _ _) _)
          have hs5 : StIn W5 w4.heap.size wd (1) 0 := by rw [hW5]; exact StIn.new2 (by simp [World.setCell]) _ _ _
          have B5 : Below w.heap.size w W5 := by rw [hW5]; exact bal (bset B4 (p := ⟨w.heap.size, 2, none⟩) (Nat.le_refl _) _) _
          clear hW5 hlt t0 t1 t2 t3 hfz hf2 hfd B4
          obtain ⟨hlt, t0, t1, t2, t3, -⟩ := ha5
          obtain ⟨ys, y0, y1, y2⟩ := hs5
          have hne : ¬ (b0 = (b0 + 1) ∧ b1 = (b1)) := by omega
          have hcov := mid_cov (a := b0) (b := b1) (c := b0 + 1) (d := b1) (w := wd) (x := pntI x) (y := pntI y) (co_iff.2 (by omega)) (co_iff.2 (by omega)) (co_iff.2 (by omega)) (co_iff.2 (by omega)) (co_iff.2 (by omega)) (co_iff.2 (by omega)) hne (1) (by omega)
          rw [← inL_made (oneL_may (co_iff.2 (by omega)) (co_iff.2 (by omega)) (co_iff.2 (by omega)) (co_iff.2 (by omega))) (oneL_nobow _ _ _ _) (by simp only; omega) (by simp only; omega) (by simp only; omega) (by omega) (by omega), ← inL_made (oneL_may (co_iff.2 (by omega)) (co_iff.2 (by omega)) (co_iff.2 (by omega)) (co_iff.2 (by omega))) (oneL_nobow _ _ _ _) (by simp only; omega) (by simp only; omega) (by simp only; omega) (by omega) (by omega), ← inL_made (oneL_may (co_iff.2 (by omega)) (co_iff.2 (by omega)) (co_iff.2 (by omega)) (co_iff.2 (by omega))) (oneL_nobow _ _ _ _) (by simp only; omega) (by simp only; omega) (by simp only; omega) (by omega) (by omega)] at hcov
          obtain ⟨v1, hv1⟩ : ∃ b, b = inL (oneL (2 * b0) (2 * b1) (2 * (b0 + 1)) (2 * (b1))) ⟨wd, 1, 0⟩ (pntI x) (pntI y) := ⟨_, rfl⟩
          obtain ⟨v2, hv2⟩ : ∃ b, b = inL (oneL (2 * b0) (2 * b1) (b0 + (b0 + 1)) (b1 + (b1))) ⟨wd, 1, 0⟩ (pntI x) (pntI y) := ⟨_, rfl⟩
          obtain ⟨v3, hv3⟩ : ∃ b, b = inL (oneL (b0 + (b0 + 1)) (b1 + (b1)) (2 * (b0 + 1)) (2 * (b1))) ⟨wd, 1, 0⟩ (pntI x) (pntI y) := ⟨_, rfl⟩
          rw [← hv1, ← hv2, ← hv3] at hcov
          have HCOV := Lib.hid hcov
          have HV1 := Lib.hid hv1.symm
          have HV2 := Lib.hid hv2.symm
          have HV3 := Lib.hid hv3.symm
          clear hcov hv1 hv2 hv3 hne
          have z1 : w.heap.size < W5.heap.size + 1 := by omega
          have z2 : w.heap.size < W5.heap.size + 1 + 1 := by omega
          have z3 : w4.heap.size < W5.heap.size + 1 := by omega
          have z4 : w4.heap.size < W5.heap.size + 1 + 1 := by omega
          have z5 : w4.heap.size < W5.heap.size + 1 + 1 + 1 := by omega
          go_wp2_with fail
          refine (point_any x _).mono ?_; rintro e w6 ⟨rfl, rfl⟩
          go_wp2_with fail
          refine (point_any y _).mono ?_; rintro e w6 ⟨rfl, rfl⟩
          go_wp2_with fail
          refine (In_st (l := oneL (2 * b0) (2 * b1) (2 * (b0 + 1)) (2 * (b1))) _ HV1.out (by omega) ((sl_newN (sgs (oneL (2 * b0) (2 * b1) (2 * (b0 + 1)) (2 * (b1)))) rfl rfl).below (bal (bal (Below.refl _ _) _) _))).mono ?_; rintro e w8 ⟨rfl, hb8⟩
          have hb58 := btr (bal (bal (bal (Below.refl W5.heap.size W5) _) _) _) hb8
          have hp8 : Sl w8 5 (some ⟨W5.heap.size + 1, 0, none⟩) 2 (sgs (oneL (2 * b0) (2 * b1) (b0 + (b0 + 1)) (b1 + (b1)))) := ((sl_newN (sgs (oneL (2 * b0) (2 * b1) (b0 + (b0 + 1)) (b1 + (b1)))) (by simp) rfl).below (bal (Below.refl _ _) _)).below hb8
          have hq8 : Sl w8 5 (some ⟨W5.heap.size + 1 + 1, 0, none⟩) 2 (sgs (oneL (b0 + (b0 + 1)) (b1 + (b1)) (2 * (b0 + 1)) (2 * (b1)))) := (sl_newN (sgs (oneL (b0 + (b0 + 1)) (b1 + (b1)) (2 * (b0 + 1)) (2 * (b1)))) (by simp) rfl).below hb8
          replace y0 := (later_cell hb58 ys).trans y0
          replace y1 := (later_cell hb58 ys).trans y1
          replace y2 := (later_cell hb58 ys).trans y2
          have B8 := btr B5 hb58
          have ys8 := Nat.lt_of_lt_of_le ys hb58.size
          clear hb8 hb58 B5 t0 t1 t2 t3 z1 z2 z3 z4 z5
          go_wp2_with fail
          refine (In_st (l := oneL (2 * b0) (2 * b1) (b0 + (b0 + 1)) (b1 + (b1))) _ HV2.out (by omega) hp8).mono ?_; rintro e w9 ⟨rfl, hb9⟩
          replace y0 := (later_cell hb9 ys8).trans y0
          replace y1 := (later_cell hb9 ys8).trans y1
          replace y2 := (later_cell hb9 ys8).trans y2
          replace hq8 := hq8.below hb9
          have B9 := btr B8 hb9
          clear hb9 B8 hp8
          cases v2
          · go_wp2_with fail
            refine (In_st (l := oneL (b0 + (b0 + 1)) (b1 + (b1)) (2 * (b0 + 1)) (2 * (b1))) _ HV3.out (by omega) hq8).mono ?_; rintro e w10 ⟨rfl, hb10⟩
            go_wp2
            go_ret
            exact ⟨ret_b (by rw [HCOV.out]; simp), btr B9 hb10⟩
          · go_wp2
            go_ret
            exact ⟨ret_b (by rw [HCOV.out]; simp), B9⟩
        · by_cases h02 : b0 = b2
          · have q1 : (b0 == b2) = true := by simp [h02]
            have q2 : (b1 == b3) = false := by simp; omega
            clear h02
            go_upto_region 12 with (fail)
            obtain ⟨W5, hW5⟩ : ∃ W5 : World, W5 = w4.alloc (.cells #[.int .i64 wd, .int .i64 1, .int .i64 0] 27) := ⟨_, rfl⟩
            rw [← hW5]
            have ha5 : A4 W5 w.heap.size b0 b1 (b2) (b3) := by rw [hW5]; exact (A4.mk hlt t0 t1 t2 t3 hfz).below (bal (Below.refl _ _) _)
            have hs5 : StIn W5 w4.heap.size wd (1) 0 := by rw [hW5]; exact StIn.new _ _ _
            have B5 : Below w.heap.size w W5 := by rw [hW5]; exact bal B4 _
            clear hW5 hlt t0 t1 t2 t3 hfz hf2 hfd B4
            obtain ⟨hlt, t0, t1, t2, t3, -⟩ := ha5
            obtain ⟨ys, y0, y1, y2⟩ := hs5
            have hne : ¬ (b0 = (b2) ∧ b1 = (b3)) := by omega
            have hcov := mid_cov (a := b0) (b := b1) (c := b2) (d := b3) (w := wd) (x := pntI x) (y := pntI y) (co_iff.2 (by omega)) (co_iff.2 (by omega)) (co_iff.2 (by omega)) (co_iff.2 (by omega)) (co_iff.2 (by omega)) (co_iff.2 (by omega)) hne (1) (by omega)
            rw [← inL_made (oneL_may (co_iff.2 (by omega)) (co_iff.2 (by omega)) (co_iff.2 (by omega)) (co_iff.2 (by omega))) (oneL_nobow _ _ _ _) (by simp only; omega) (by simp only; omega) (by simp only; omega) (by omega) (by omega), ← inL_made (oneL_may (co_iff.2 (by omega)) (co_iff.2 (by omega)) (co_iff.2 (by omega)) (co_iff.2 (by omega))) (oneL_nobow _ _ _ _) (by simp only; omega) (by simp only; omega) (by simp only; omega) (by omega) (by omega), ← inL_made (oneL_may (co_iff.2 (by omega)) (co_iff.2 (by omega)) (co_iff.2 (by omega)) (co_iff.2 (by omega))) (oneL_nobow _ _ _ _) (by simp only; omega) (by simp only; omega) (by simp only; omega) (by omega) (by omega)] at hcov
            obtain ⟨v1, hv1⟩ : ∃ b, b = inL (oneL (2 * b0) (2 * b1) (2 * (b2)) (2 * (b3))) ⟨wd, 1, 0⟩ (pntI x) (pntI y) := ⟨_, rfl⟩
            obtain ⟨v2, hv2⟩ : ∃ b, b = inL (oneL (2 * b0) (2 * b1) (b0 + (b2)) (b1 + (b3))) ⟨wd, 1, 0⟩ (pntI x) (pntI y) := ⟨_, rfl⟩
            obtain ⟨v3, hv3⟩ : ∃ b, b = inL (oneL (b0 + (b2)) (b1 + (b3)) (2 * (b2)) (2 * (b3))) ⟨wd, 1, 0⟩ (pntI x) (pntI y) := ⟨_, rfl⟩
            rw [← hv1, ← hv2, ← hv3] at hcov
            have HCOV := Lib.hid hcov
            have HV1 := Lib.hid hv1.symm
            have HV2 := Lib.hid hv2.symm
            have HV3 := Lib.hid hv3.symm
            clear hcov hv1 hv2 hv3 hne
            have z1 : w.heap.size < W5.heap.size + 1 := by omega
            have z2 : w.heap.size < W5.heap.size + 1 + 1 := by omega
            have z3 : w4.heap.size < W5.heap.size + 1 := by omega
            have z4 : w4.heap.size < W5.heap.size + 1 + 1 := by omega
            have z5 : w4.heap.size < W5.heap.size + 1 + 1 + 1 := by omega
            go_wp2_with fail
            refine (point_any x _).mono ?_; rintro e w6 ⟨rfl, rfl⟩
            go_wp2_with fail
            refine (point_any y _).mono ?_; rintro e w6 ⟨rfl, rfl⟩
            go_wp2_with fail
            refine (In_st (l := oneL (2 * b0) (2 * b1) (2 * (b2)) (2 * (b3))) _ HV1.out (by omega) ((sl_newN (sgs (oneL (2 * b0) (2 * b1) (2 * (b2)) (2 * (b3)))) rfl rfl).below (bal (bal (Below.refl _ _) _) _))).mono ?_; rintro e w8 ⟨rfl, hb8⟩
            have hb58 := btr (bal (bal (bal (Below.refl W5.heap.size W5) _) _) _) hb8
            have hp8 : Sl w8 5 (some ⟨W5.heap.size + 1, 0, none⟩) 2 (sgs (oneL (2 * b0) (2 * b1) (b0 + (b2)) (b1 + (b3)))) := ((sl_newN (sgs (oneL (2 * b0) (2 * b1) (b0 + (b2)) (b1 + (b3)))) (by simp) rfl).below (bal (Below.refl _ _) _)).below hb8
            have hq8 : Sl w8 5 (some ⟨W5.heap.size + 1 + 1, 0, none⟩) 2 (sgs (oneL (b0 + (b2)) (b1 + (b3)) (2 * (b2)) (2 * (b3)))) := (sl_newN (sgs (oneL (b0 + (b2)) (b1 + (b3)) (2 * (b2)) (2 * (b3)))) (by simp) rfl).below hb8
            replace y0 := (later_cell hb58 ys).trans y0
            replace y1 := (later_cell hb58 ys).trans y1
            replace y2 := (later_cell hb58 ys).trans y2
            have B8 := btr B5 hb58
            have ys8 := Nat.lt_of_lt_of_le ys hb58.size
            clear hb8 hb58 B5 t0 t1 t2 t3 z1 z2 z3 z4 z5
            go_wp2_with fail
            refine (In_st (l := oneL (2 * b0) (2 * b1) (b0 + (b2)) (b1 + (b3))) _ HV2.out (by omega) hp8).mono ?_; rintro e w9 ⟨rfl, hb9⟩
            replace y0 := (later_cell hb9 ys8).trans y0
            replace y1 := (later_cell hb9 ys8).trans y1
            replace y2 := (later_cell hb9 ys8).trans y2
            replace hq8 := hq8.below hb9
            have B9 := btr B8 hb9
            clear hb9 B8 hp8
            cases v2
            · go_wp2_with fail
              refine (In_st (l := oneL (b0 + (b2)) (b1 + (b3)) (2 * (b2)) (2 * (b3))) _ HV3.out (by omega) hq8).mono ?_; rintro e w10 ⟨rfl, hb10⟩
              go_wp2
              go_ret
              exact ⟨ret_b (by rw [HCOV.out]; simp), btr B9 hb10⟩
            · go_wp2
              go_ret
              exact ⟨ret_b (by rw [HCOV.out]; simp), B9⟩
          · have q1 : (b0 == b2) = false := by simp [h02]
            clear h02
            go_upto_region 12 with (fail)
            obtain ⟨W5, hW5⟩ : ∃ W5 : World, W5 = w4.alloc (.cells #[.int .i64 wd, .int .i64 1, .int .i64 0] 27) := ⟨_, rfl⟩
            rw [← hW5]
            have ha5 : A4 W5 w.heap.size b0 b1 (b2) (b3) := by rw [hW5]; exact (A4.mk hlt t0 t1 t2 t3 hfz).below (bal (Below.refl _ _) _)
            have hs5 : StIn W5 w4.heap.size wd (1) 0 := by rw [hW5]; exact StIn.new _ _ _
            have B5 : Below w.heap.size w W5 := by rw [hW5]; exact bal B4 _
            clear hW5 hlt t0 t1 t2 t3 hfz hf2 hfd B4
            obtain ⟨hlt, t0, t1, t2, t3, -⟩ := ha5
            obtain ⟨ys, y0, y1, y2⟩ := hs5
            have hne : ¬ (b0 = (b2) ∧ b1 = (b3)) := by omega
            have hcov := mid_cov (a := b0) (b := b1) (c := b2) (d := b3) (w := wd) (x := pntI x) (y := pntI y) (co_iff.2 (by omega)) (co_iff.2 (by omega)) (co_iff.2 (by omega)) (co_iff.2 (by omega)) (co_iff.2 (by omega)) (co_iff.2 (by omega)) hne (1) (by omega)
            rw [← inL_made (oneL_may (co_iff.2 (by omega)) (co_iff.2 (by omega)) (co_iff.2 (by omega)) (co_iff.2 (by omega))) (oneL_nobow _ _ _ _) (by simp only; omega) (by simp only; omega) (by simp only; omega) (by omega) (by omega), ← inL_made (oneL_may (co_iff.2 (by omega)) (co_iff.2 (by omega)) (co_iff.2 (by omega)) (co_iff.2 (by omega))) (oneL_nobow _ _ _ _) (by simp only; omega) (by simp only; omega) (by simp only; omega) (by omega) (by omega), ← inL_made (oneL_may (co_iff.2 (by omega)) (co_iff.2 (by omega)) (co_iff.2 (by omega)) (co_iff.2 (by omega))) (oneL_nobow _ _ _ _) (by simp only; omega) (by simp only; omega) (by simp only; omega) (by omega) (by omega)] at hcov
            obtain ⟨v1, hv1⟩ : ∃ b, b = inL (oneL (2 * b0) (2 * b1) (2 * (b2)) (2 * (b3))) ⟨wd, 1, 0⟩ (pntI x) (pntI y) := ⟨_, rfl⟩
            obtain ⟨v2, hv2⟩ : ∃ b, b = inL (oneL (2 * b0) (2 * b1) (b0 + (b2)) (b1 + (b3))) ⟨wd, 1, 0⟩ (pntI x) (pntI y) := ⟨_, rfl⟩
            obtain ⟨v3, hv3⟩ : ∃ b, b = inL (oneL (b0 + (b2)) (b1 + (b3)) (2 * (b2)) (2 * (b3))) ⟨wd, 1, 0⟩ (pntI x) (pntI y) := ⟨_, rfl⟩
            rw [← hv1, ← hv2, ← hv3] at hcov
            have HCOV := Lib.hid hcov
            have HV1 := Lib.hid hv1.symm
            have HV2 := Lib.hid hv2.symm
            have HV3 := Lib.hid hv3.symm
            clear hcov hv1 hv2 hv3 hne
            have z1 : w.heap.size < W5.heap.size + 1 := by omega
            have z2 : w.heap.size < W5.heap.size + 1 + 1 := by omega
            have z3 : w4.heap.size < W5.heap.size + 1 := by omega
            have z4 : w4.heap.size < W5.heap.size + 1 + 1 := by omega
            have z5 : w4.heap.size < W5.heap.size + 1 + 1 + 1 := by omega
            go_wp2_with fail
            refine (point_any x _).mono ?_; rintro e w6 ⟨rfl, rfl⟩
            go_wp2_with fail
            refine (point_any y _).mono ?_; rintro e w6 ⟨rfl, rfl⟩
            go_wp2_with fail
            refine (In_st (l := oneL (2 * b0) (2 * b1) (2 * (b2)) (2 * (b3))) _ HV1.out (by omega) ((sl_newN (sgs (oneL (2 * b0) (2 * b1) (2 * (b2)) (2 * (b3)))) rfl rfl).below (bal (bal (Below.refl _ _) _) _))).mono ?_; rintro e w8 ⟨rfl, hb8⟩
            have hb58 := btr (bal (bal (bal (Below.refl W5.heap.size W5) _) _) _) hb8
            have hp8 : Sl w8 5 (some ⟨W5.heap.size + 1, 0, none⟩) 2 (sgs (oneL (2 * b0) (2 * b1) (b0 + (b2)) (b1 + (b3)))) := ((sl_newN (sgs (oneL (2 * b0) (2 * b1) (b0 + (b2)) (b1 + (b3)))) (by simp) rfl).below (bal (Below.refl _ _) _)).below hb8
            have hq8 : Sl w8 5 (some ⟨W5.heap.size + 1 + 1, 0, none⟩) 2 (sgs (oneL (b0 + (b2)) (b1 + (b3)) (2 * (b2)) (2 * (b3)))) := (sl_newN (sgs (oneL (b0 + (b2)) (b1 + (b3)) (2 * (b2)) (2 * (b3)))) (by simp) rfl).below hb8
            replace y0 := (later_cell hb58 ys).trans y0
            replace y1 := (later_cell hb58 ys).trans y1
            replace y2 := (later_cell hb58 ys).trans y2
            have B8 := btr B5 hb58
            have ys8 := Nat.lt_of_lt_of_le ys hb58.size
            clear hb8 hb58 B5 t0 t1 t2 t3 z1 z2 z3 z4 z5
            go_wp2_with fail
            refine (In_st (l := oneL (2 * b0) (2 * b1) (b0 + (b2)) (b1 + (b3))) _ HV2.out (by omega) hp8).mono ?_; rintro e w9 ⟨rfl, hb9⟩
            replace y0 := (later_cell hb9 ys8).trans y0
            replace y1 := (later_cell hb9 ys8).trans y1
            replace y2 := (later_cell hb9 ys8).trans y2
            replace hq8 := hq8.below hb9
            have B9 := btr B8 hb9
            clear hb9 B8 hp8
            cases v2
            · go_wp2_with fail
              refine (In_st (l := oneL (b0 + (b2)) (b1 + (b3)) (2 * (b2)) (2 * (b3))) _ HV3.out (by omega) hq8).mono ?_; rintro e w10 ⟨rfl, hb10⟩
              go_wp2
              go_ret
              exact ⟨ret_b (by rw [HCOV.out]; simp), btr B9 hb10⟩
            · go_wp2
              go_ret
              exact ⟨ret_b (by rw [HCOV.out]; simp), B9⟩
end Go.Proofs.Ytbbffeddlgfeiaa
