/- The reference's Mask: where there is none. -/
import Derived.Test.YtpidgiooggffdaaStrokeR5
import Derived.Test.YtpidgiooggffdaaStrokeMask1
import Derived.Test.YtpidgiooggffdaaStrokeMask2
namespace Go.Proofs.Ytpidgiooggffdaa
open Go.RowKit Go.BigFrame

set_option maxRecDepth 100000 in
set_option maxHeartbeats 1000000 in
theorem ref_Mask_bad (A : Option Addr) (n c : Nat) (l : List Sg) (wd cp jn a b : Int) (w : World) (hn : n ≤ 1000000) (h : Sl w 5 A n (sgs l))
    (hbad : plainB l = false ∨ mayS ⟨wd, cp, jn⟩ = false ∨ a < 1 ∨ 64 < a ∨ b < 1 ∨ 64 < b) :
    Calls Try.prog 7 #[.slice A n c, .agg #[.int .i64 wd, .int .i64 cp, .int .i64 jn], .int .i64 a, .int .i64 b] w
      fun e w' => e = .returned (.tuple #[maskV 0 0 (.slice none 0 0), .int .i64 1]) ∧ Below w.heap.size w w' := by
  obtain ⟨w0, hw0⟩ : ∃ w0 : World, w0 = (w.alloc (.cells #[.int .i64 wd, .int .i64 cp, .int .i64 jn] 24)).alloc (.cells #[.int .i64 0, .int .i64 0, .slice none 0 0] 28) := ⟨_, rfl⟩
  have k0' : w0.heap[w.heap.size + 1]? = some (.cells #[.int .i64 0, .int .i64 0, .slice none 0 0] 28 (0, 0)) := by
    rw [hw0]; have := heap_alloc_new (w.alloc (.cells #[.int .i64 wd, .int .i64 cp, .int .i64 jn] 24)) (.cells #[.int .i64 0, .int .i64 0, .slice none 0 0] 28); rw [show (w.alloc (.cells #[.int .i64 wd, .int .i64 cp, .int .i64 jn] 24)).heap.size = w.heap.size + 1 by simp] at this; exact this
  have k0 := Lib.hid k0'
  clear k0'
  have hst : StIn w0 w.heap.size wd cp jn := by rw [hw0]; exact (StIn.new _ _ _).below (bal (Below.refl _ _) _)
  have B0 : Below w.heap.size w w0 := by rw [hw0]; exact bal (bal (Below.refl _ _) _) _
  have h0 := h.below B0
  clear h
  obtain ⟨p, hp⟩ : ∃ p, plainB l = p := ⟨_, rfl⟩
  obtain ⟨q, hq⟩ : ∃ q, mayS ⟨wd, cp, jn⟩ = q := ⟨_, rfl⟩
  rw [hp, hq] at hbad
  have HP := Lib.hid hp
  have HQ := Lib.hid hq
  clear hp hq
  cases p
  · clear hbad
    go_enter Try.func7, Try.ntmps7
    go_wp2_with fail
    rw [← hw0]
    clear hw0
    refine (ref_Straight_all A n c l _ hn h0).mono ?_; rintro e w1 ⟨rfl, hb1⟩
    rw [HP.out]
    have k9 : Hid (w1.heap[w.heap.size + 1]? = some (.cells #[.int .i64 0, .int .i64 0, .slice none 0 0] 28 (0, 0))) := (hb1.block _ (hid_lt k0)).trans k0.out
    have BB := btr B0 hb1
    clear k0 hb1 B0 h0
    have c0 := fun i => blk_cell i k9
    have f0 := fun i => blk_frozen i k9
    go_wp2
    obtain ⟨w9, hw9⟩ : ∃ w9 : World, w9 = ((w1.setCell ⟨w.heap.size + 1, 0, none⟩ (.int .i64 0)).setCell ⟨w.heap.size + 1, 1, none⟩ (.int .i64 0)).setCell ⟨w.heap.size + 1, 2, none⟩ (.slice none 0 0) := ⟨_, rfl⟩
    have B9 : Below w.heap.size w w9 := by rw [hw9]; exact bset (bset (bset BB (by simp) _) (by simp) _) (by simp) _
    have r0 : w9.cell? ⟨w.heap.size + 1, 0, none⟩ = some (.int .i64 0) := by rw [hw9, World.cell?_setCell_other _ _ _ _ (by simp), World.cell?_setCell_other _ _ _ _ (by simp)]; exact World.cell?_setCell_same _ _ _ (c0 0)
    have r1 : w9.cell? ⟨w.heap.size + 1, 1, none⟩ = some (.int .i64 0) := by rw [hw9, World.cell?_setCell_other _ _ _ _ (by simp)]; exact World.cell?_setCell_same _ _ _ ((World.cell?_setCell_other _ _ _ _ (by simp)).trans (c0 1))
    have r2 : w9.cell? ⟨w.heap.size + 1, 2, none⟩ = some (.slice none 0 0) := by rw [hw9]; exact World.cell?_setCell_same _ _ _ ((World.cell?_setCell_other _ _ _ _ (by simp)).trans ((World.cell?_setCell_other _ _ _ _ (by simp)).trans (c0 2)))
    rw [← hw9]
    refine bodyPost_ret (v := .tuple #[maskV 0 0 (.slice none 0 0), .int .i64 1]) (by simp [results, Try.results7, go_sem, r0, r1, r2, maskV]) rfl ?_
    exact ⟨rfl, B9⟩
  · go_enter Try.func7, Try.ntmps7
    go_wp2_with fail
    rw [← hw0]
    clear hw0
    refine (ref_Straight_all A n c l _ hn h0).mono ?_; rintro e w1 ⟨rfl, hb1⟩
    rw [HP.out]
    have k1 : Hid (w1.heap[w.heap.size + 1]? = some (.cells #[.int .i64 0, .int .i64 0, .slice none 0 0] 28 (0, 0))) := (hb1.block _ (hid_lt k0)).trans k0.out
    have B1 := btr B0 hb1
    have hst1 := hst.below hb1
    obtain ⟨s0, s1, s2⟩ : w1.cell? ⟨w.heap.size, 0, none⟩ = some (.int .i64 wd) ∧ w1.cell? ⟨w.heap.size, 1, none⟩ = some (.int .i64 cp) ∧ w1.cell? ⟨w.heap.size, 2, none⟩ = some (.int .i64 jn) := ⟨hst1.c0, hst1.c1, hst1.c2⟩
    clear k0 hb1 B0 h0 hst
    go_wp2_with fail
    refine (ref_MaySt_any ⟨wd, cp, jn⟩ _).mono ?_; rintro e w2 ⟨rfl, hb2⟩
    rw [HQ.out]
    have k9 : Hid (w2.heap[w.heap.size + 1]? = some (.cells #[.int .i64 0, .int .i64 0, .slice none 0 0] 28 (0, 0))) := (hb2.block _ (hid_lt k1)).trans k1.out
    have BB := btr B1 hb2
    clear s0 s1 s2 k1 hb2 B1 hst1
    cases q
    · clear hbad
      have c0 := fun i => blk_cell i k9
      have f0 := fun i => blk_frozen i k9
      go_wp2
      obtain ⟨w9, hw9⟩ : ∃ w9 : World, w9 = ((w2.setCell ⟨w.heap.size + 1, 0, none⟩ (.int .i64 0)).setCell ⟨w.heap.size + 1, 1, none⟩ (.int .i64 0)).setCell ⟨w.heap.size + 1, 2, none⟩ (.slice none 0 0) := ⟨_, rfl⟩
      have B9 : Below w.heap.size w w9 := by rw [hw9]; exact bset (bset (bset BB (by simp) _) (by simp) _) (by simp) _
      have r0 : w9.cell? ⟨w.heap.size + 1, 0, none⟩ = some (.int .i64 0) := by rw [hw9, World.cell?_setCell_other _ _ _ _ (by simp), World.cell?_setCell_other _ _ _ _ (by simp)]; exact World.cell?_setCell_same _ _ _ (c0 0)
      have r1 : w9.cell? ⟨w.heap.size + 1, 1, none⟩ = some (.int .i64 0) := by rw [hw9, World.cell?_setCell_other _ _ _ _ (by simp)]; exact World.cell?_setCell_same _ _ _ ((World.cell?_setCell_other _ _ _ _ (by simp)).trans (c0 1))
      have r2 : w9.cell? ⟨w.heap.size + 1, 2, none⟩ = some (.slice none 0 0) := by rw [hw9]; exact World.cell?_setCell_same _ _ _ ((World.cell?_setCell_other _ _ _ _ (by simp)).trans ((World.cell?_setCell_other _ _ _ _ (by simp)).trans (c0 2)))
      rw [← hw9]
      refine bodyPost_ret (v := .tuple #[maskV 0 0 (.slice none 0 0), .int .i64 1]) (by simp [results, Try.results7, go_sem, r0, r1, r2, maskV]) rfl ?_
      exact ⟨rfl, B9⟩
    · have hb' : a < 1 ∨ (¬ a < 1 ∧ 64 < a) ∨ (¬ a < 1 ∧ ¬ 64 < a ∧ b < 1) ∨ (¬ a < 1 ∧ ¬ 64 < a ∧ ¬ b < 1 ∧ 64 < b) := by simp at hbad; omega
      clear hbad
      rcases hb' with q1 | ⟨q1, q2⟩ | ⟨q1, q2, q3⟩ | ⟨q1, q2, q3, q4⟩
      · have HA := Lib.hid (show sideB a = false by unfold sideB; simp; omega)
        go_wp2_with fail
        refine (IsSide_any a _).mono ?_; rintro e w3 ⟨rfl, rfl⟩
        rw [HA.out]
        have c0 := fun i => blk_cell i k9
        have f0 := fun i => blk_frozen i k9
        go_wp2
        obtain ⟨w9, hw9⟩ : ∃ w9 : World, w9 = ((w2.setCell ⟨w.heap.size + 1, 0, none⟩ (.int .i64 0)).setCell ⟨w.heap.size + 1, 1, none⟩ (.int .i64 0)).setCell ⟨w.heap.size + 1, 2, none⟩ (.slice none 0 0) := ⟨_, rfl⟩
        have B9 : Below w.heap.size w w9 := by rw [hw9]; exact bset (bset (bset BB (by simp) _) (by simp) _) (by simp) _
        have r0 : w9.cell? ⟨w.heap.size + 1, 0, none⟩ = some (.int .i64 0) := by rw [hw9, World.cell?_setCell_other _ _ _ _ (by simp), World.cell?_setCell_other _ _ _ _ (by simp)]; exact World.cell?_setCell_same _ _ _ (c0 0)
        have r1 : w9.cell? ⟨w.heap.size + 1, 1, none⟩ = some (.int .i64 0) := by rw [hw9, World.cell?_setCell_other _ _ _ _ (by simp)]; exact World.cell?_setCell_same _ _ _ ((World.cell?_setCell_other _ _ _ _ (by simp)).trans (c0 1))
        have r2 : w9.cell? ⟨w.heap.size + 1, 2, none⟩ = some (.slice none 0 0) := by rw [hw9]; exact World.cell?_setCell_same _ _ _ ((World.cell?_setCell_other _ _ _ _ (by simp)).trans ((World.cell?_setCell_other _ _ _ _ (by simp)).trans (c0 2)))
        rw [← hw9]
        refine bodyPost_ret (v := .tuple #[maskV 0 0 (.slice none 0 0), .int .i64 1]) (by simp [results, Try.results7, go_sem, r0, r1, r2, maskV]) rfl ?_
        exact ⟨rfl, B9⟩
      · have HA := Lib.hid (show sideB a = false by unfold sideB; simp; omega)
        go_wp2_with fail
        refine (IsSide_any a _).mono ?_; rintro e w3 ⟨rfl, rfl⟩
        rw [HA.out]
        have c0 := fun i => blk_cell i k9
        have f0 := fun i => blk_frozen i k9
        go_wp2
        obtain ⟨w9, hw9⟩ : ∃ w9 : World, w9 = ((w2.setCell ⟨w.heap.size + 1, 0, none⟩ (.int .i64 0)).setCell ⟨w.heap.size + 1, 1, none⟩ (.int .i64 0)).setCell ⟨w.heap.size + 1, 2, none⟩ (.slice none 0 0) := ⟨_, rfl⟩
        have B9 : Below w.heap.size w w9 := by rw [hw9]; exact bset (bset (bset BB (by simp) _) (by simp) _) (by simp) _
        have r0 : w9.cell? ⟨w.heap.size + 1, 0, none⟩ = some (.int .i64 0) := by rw [hw9, World.cell?_setCell_other _ _ _ _ (by simp), World.cell?_setCell_other _ _ _ _ (by simp)]; exact World.cell?_setCell_same _ _ _ (c0 0)
        have r1 : w9.cell? ⟨w.heap.size + 1, 1, none⟩ = some (.int .i64 0) := by rw [hw9, World.cell?_setCell_other _ _ _ _ (by simp)]; exact World.cell?_setCell_same _ _ _ ((World.cell?_setCell_other _ _ _ _ (by simp)).trans (c0 1))
        have r2 : w9.cell? ⟨w.heap.size + 1, 2, none⟩ = some (.slice none 0 0) := by rw [hw9]; exact World.cell?_setCell_same _ _ _ ((World.cell?_setCell_other _ _ _ _ (by simp)).trans ((World.cell?_setCell_other _ _ _ _ (by simp)).trans (c0 2)))
        rw [← hw9]
        refine bodyPost_ret (v := .tuple #[maskV 0 0 (.slice none 0 0), .int .i64 1]) (by simp [results, Try.results7, go_sem, r0, r1, r2, maskV]) rfl ?_
        exact ⟨rfl, B9⟩
      · have HA := Lib.hid (show sideB a = true by unfold sideB; simp; omega)
        go_wp2_with fail
        refine (IsSide_any a _).mono ?_; rintro e w3 ⟨rfl, rfl⟩
        rw [HA.out]
        have HB := Lib.hid (show sideB b = false by unfold sideB; simp; omega)
        go_wp2_with fail
        refine (IsSide_any b _).mono ?_; rintro e w3 ⟨rfl, rfl⟩
        rw [HB.out]
        have c0 := fun i => blk_cell i k9
        have f0 := fun i => blk_frozen i k9
        go_wp2
        obtain ⟨w9, hw9⟩ : ∃ w9 : World, w9 = ((w2.setCell ⟨w.heap.size + 1, 0, none⟩ (.int .i64 0)).setCell ⟨w.heap.size + 1, 1, none⟩ (.int .i64 0)).setCell ⟨w.heap.size + 1, 2, none⟩ (.slice none 0 0) := ⟨_, rfl⟩
        have B9 : Below w.heap.size w w9 := by rw [hw9]; exact bset (bset (bset BB (by simp) _) (by simp) _) (by simp) _
        have r0 : w9.cell? ⟨w.heap.size + 1, 0, none⟩ = some (.int .i64 0) := by rw [hw9, World.cell?_setCell_other _ _ _ _ (by simp), World.cell?_setCell_other _ _ _ _ (by simp)]; exact World.cell?_setCell_same _ _ _ (c0 0)
        have r1 : w9.cell? ⟨w.heap.size + 1, 1, none⟩ = some (.int .i64 0) := by rw [hw9, World.cell?_setCell_other _ _ _ _ (by simp)]; exact World.cell?_setCell_same _ _ _ ((World.cell?_setCell_other _ _ _ _ (by simp)).trans (c0 1))
        have r2 : w9.cell? ⟨w.heap.size + 1, 2, none⟩ = some (.slice none 0 0) := by rw [hw9]; exact World.cell?_setCell_same _ _ _ ((World.cell?_setCell_other _ _ _ _ (by simp)).trans ((World.cell?_setCell_other _ _ _ _ (by simp)).trans (c0 2)))
        rw [← hw9]
        refine bodyPost_ret (v := .tuple #[maskV 0 0 (.slice none 0 0), .int .i64 1]) (by simp [results, Try.results7, go_sem, r0, r1, r2, maskV]) rfl ?_
        exact ⟨rfl, B9⟩
      · have HA := Lib.hid (show sideB a = true by unfold sideB; simp; omega)
        go_wp2_with fail
        refine (IsSide_any a _).mono ?_; rintro e w3 ⟨rfl, rfl⟩
        rw [HA.out]
        have HB := Lib.hid (show sideB b = false by unfold sideB; simp; omega)
        go_wp2_with fail
        refine (IsSide_any b _).mono ?_; rintro e w3 ⟨rfl, rfl⟩
        rw [HB.out]
        have c0 := fun i => blk_cell i k9
        have f0 := fun i => blk_frozen i k9
        go_wp2
        obtain ⟨w9, hw9⟩ : ∃ w9 : World, w9 = ((w2.setCell ⟨w.heap.size + 1, 0, none⟩ (.int .i64 0)).setCell ⟨w.heap.size + 1, 1, none⟩ (.int .i64 0)).setCell ⟨w.heap.size + 1, 2, none⟩ (.slice none 0 0) := ⟨_, rfl⟩
        have B9 : Below w.heap.size w w9 := by rw [hw9]; exact bset (bset (bset BB (by simp) _) (by simp) _) (by simp) _
        have r0 : w9.cell? ⟨w.heap.size + 1, 0, none⟩ = some (.int .i64 0) := by rw [hw9, World.cell?_setCell_other _ _ _ _ (by simp), World.cell?_setCell_other _ _ _ _ (by simp)]; exact World.cell?_setCell_same _ _ _ (c0 0)
        have r1 : w9.cell? ⟨w.heap.size + 1, 1, none⟩ = some (.int .i64 0) := by rw [hw9, World.cell?_setCell_other _ _ _ _ (by simp)]; exact World.cell?_setCell_same _ _ _ ((World.cell?_setCell_other _ _ _ _ (by simp)).trans (c0 1))
        have r2 : w9.cell? ⟨w.heap.size + 1, 2, none⟩ = some (.slice none 0 0) := by rw [hw9]; exact World.cell?_setCell_same _ _ _ ((World.cell?_setCell_other _ _ _ _ (by simp)).trans ((World.cell?_setCell_other _ _ _ _ (by simp)).trans (c0 2)))
        rw [← hw9]
        refine bodyPost_ret (v := .tuple #[maskV 0 0 (.slice none 0 0), .int .i64 1]) (by simp [results, Try.results7, go_sem, r0, r1, r2, maskV]) rfl ?_
        exact ⟨rfl, B9⟩
end Go.Proofs.Ytpidgiooggffdaa
