/- tympanlaw26.Edge: an edge by numbers. -/
import Derived.Test.YtpompbpdhahljaaNum
namespace Go.Proofs.Ytpompbpdhahljaa
open Go.RowKit

section
variable {w w' w2 : World} {g : Nat}
theorem LN_below (h : LN w g) (hb : Below w.heap.size w w') : LN w' g := by
  obtain ⟨A, n, c, hc, hf, hnc, hcm, hg, hr⟩ := h
  refine ⟨A, n, c, (later_cell hb hg).trans hc, (later_frozen hb hg).trans hf, hnc, hcm, Nat.lt_of_lt_of_le hg hb.size, fun h0 => ?_⟩
  obtain ⟨b, off, rfl, hlt, hz⟩ := hr h0
  exact ⟨b, off, rfl, hlt, fun j hj => by
    obtain ⟨z, hz⟩ := hz j hj
    exact ⟨z, (later_cell hb (by omega)).trans hz⟩⟩
theorem LN_alloc (h : LN w g) (o : Obj) : LN (w.alloc o) g := LN_below h (bal (Below.refl _ _) o)
theorem LN_set_other (h : LN w g) {b o : Nat} (hb : g < b) (u : Value) : LN (w.setCell ⟨b, o, none⟩ u) g := by
  obtain ⟨A, n, c, hc, hf, hnc, hcm, hg, hr⟩ := h
  refine ⟨A, n, c, ?_, ?_, hnc, hcm, by simpa [World.setCell] using hg, fun h0 => ?_⟩
  · rw [World.cell?_setCell_other _ _ _ _ (by intro e; injection e; omega)]; exact hc
  · rw [World.frozen?_setCell]; exact hf
  · obtain ⟨b', off, rfl, hlt, hz⟩ := hr h0
    exact ⟨b', off, rfl, hlt, fun j hj => by
      obtain ⟨z, hz⟩ := hz j hj
      exact ⟨z, by rw [World.cell?_setCell_other _ _ _ _ (by intro e; injection e; omega)]; exact hz⟩⟩
theorem gtr (h : w.grownBy w' (some g)) (h' : w'.grownBy w2 (some g)) : w.grownBy w2 (some g) :=
  ⟨h'.os.trans h.os, h'.tape.trans h.tape, h'.output.trans h.output, Nat.le_trans h.size h'.size, fun k hk hne => (h'.block k (Nat.lt_of_lt_of_le hk h.size) hne).trans (h.block k hk hne)⟩
theorem grefl (w : World) (g : Option Nat) : w.grownBy w g := ⟨rfl, rfl, rfl, Nat.le_refl _, fun _ _ _ => rfl⟩
theorem gbel (h : w.grownBy w' (some g)) (h' : Below w'.heap.size w' w2) : w.grownBy w2 (some g) :=
  ⟨h'.os.trans h.os, h'.tape.trans h.tape, h'.output.trans h.output, Nat.le_trans h.size h'.size, fun k hk hne => (h'.block k (Nat.lt_of_lt_of_le hk h.size)).trans (h.block k hk hne)⟩
theorem gal (h : w.grownBy w' (some g)) (o : Obj) : w.grownBy (w'.alloc o) (some g) := gbel h (bal (Below.refl _ _) o)
theorem gset (h : w.grownBy w' (some g)) {b o : Nat} (hb : w.heap.size ≤ b) (u : Value) : w.grownBy (w'.setCell ⟨b, o, none⟩ u) (some g) :=
  ⟨h.os, h.tape, h.output, by simpa [World.setCell] using h.size, fun k hk hne => (heap_setCell_other w' ⟨b, o, none⟩ k u (by simp; omega)).trans (h.block k hk hne)⟩
theorem gcell (h : w.grownBy w' (some g)) : (∀ b o, b < w.heap.size → ¬ b = g → w'.cell? ⟨b, o, none⟩ = w.cell? ⟨b, o, none⟩) ∧ (∀ b o, b < w.heap.size → ¬ b = g → w'.frozen? ⟨b, o, none⟩ = w.frozen? ⟨b, o, none⟩) ∧ w.heap.size ≤ w'.heap.size :=
  ⟨fun b o hb hne => World.cell?_of_block (a := ⟨b, o, none⟩) (h.block b hb (by simpa using hne)), fun b o hb hne => World.frozen?_of_block (a := ⟨b, o, none⟩) (h.block b hb (by simpa using hne)), h.size⟩
theorem keepb {b : Nat} {o : Obj} (k : Hid (w.heap[b]? = some o)) (h : w.grownBy w' (some g)) (hne : ¬ b = g) : Hid (w'.heap[b]? = some o) := by
  have hb : b < w.heap.size := (Array.getElem?_eq_some_iff.1 k.out).1
  exact (h.block b hb (by simpa using hne)).trans k.out
theorem hid_lt {b : Nat} {o : Obj} (k : Hid (w.heap[b]? = some o)) : b < w.heap.size := (Array.getElem?_eq_some_iff.1 k.out).1
theorem blk_cell {b : Nat} {cs : Array Value} {t : TypeId} (i : Nat) (k : Hid (w.heap[b]? = some (.cells cs t (0, 0)))) : w.cell? ⟨b, i, none⟩ = cs[i]? := cell_of_row w b i cs t _ k.out
theorem blk_frozen {b : Nat} {cs : Array Value} {t : TypeId} (i : Nat) (k : Hid (w.heap[b]? = some (.cells cs t (0, 0)))) : w.frozen? ⟨b, i, none⟩ = false := frozen_of_row w b i cs t k.out
end

/-- A slice of numbers that came in. -/
def InA (w : World) (A : Option Addr) (n : Nat) : Prop := 0 < n → ∃ b off : Nat, A = some ⟨b, off, none⟩ ∧ b < w.heap.size ∧ ∀ j, j < n → ∃ z : Int, w.cell? ⟨b, off + j, none⟩ = some (.int .i64 z)
theorem InA.below {w w' : World} {A : Option Addr} {n : Nat} (h : InA w A n) (hb : Below w.heap.size w w') : InA w' A n := fun h0 => by
  obtain ⟨b, off, e, hlt, hz⟩ := h h0
  exact ⟨b, off, e, Nat.lt_of_lt_of_le hlt hb.size, fun j hj => by obtain ⟨z, hz⟩ := hz j hj; exact ⟨z, (later_cell hb hlt).trans hz⟩⟩
theorem LN_new {w : World} {A : Option Addr} {n c g : Nat} {t : TypeId} (h : InA w A n) (hnc : n ≤ c) (hcm : c ≤ 9223372036854775807) (hg : w.heap.size = g) : LN (w.alloc (.cells #[.slice A n c] t)) g := by
  subst hg
  refine ⟨A, n, c, new_cell _ 0, frozen_of_row _ _ _ _ _ (heap_alloc_new w _), hnc, hcm, by simp, fun h0 => ?_⟩
  obtain ⟨b, off, e, hlt, hz⟩ := h h0
  exact ⟨b, off, e, hlt, fun j hj => by obtain ⟨z, hz⟩ := hz j hj; exact ⟨z, (later_cell (bal (Below.refl _ _) _) hlt).trans hz⟩⟩

set_option maxHeartbeats 400000 in
theorem Edge_any (g : Nat) (w : World) (h : LN w g) :
    Calls Try.prog 17 #[.pointer (some ⟨g, 0, none⟩)] w
      fun e w' => (∃ x0 y0 cx cy x1 y1 bent, e = .returned (.agg #[.int .i64 x0, .int .i64 y0, .bool bent, .int .i64 cx, .int .i64 cy, .int .i64 x1, .int .i64 y1]) ∧
        (-32 ≤ x0 ∧ x0 < 288) ∧ (-32 ≤ y0 ∧ y0 < 288) ∧ (-32 ≤ cx ∧ cx < 288) ∧ (-32 ≤ cy ∧ cy < 288) ∧ (-32 ≤ x1 ∧ x1 < 288) ∧ (-32 ≤ y1 ∧ y1 < 288) ∧ (bent = true ∨ (cx = 0 ∧ cy = 0))) ∧
        LN w' g ∧ w.grownBy w' (some g) := by
  have hgl : g < w.heap.size := by obtain ⟨_, _, _, _, _, _, _, hg, _⟩ := h; exact hg
  have hl0 := LN_alloc h (.cells #[.int .i64 0, .int .i64 0, .bool false, .int .i64 0, .int .i64 0, .int .i64 0, .int .i64 0] 25)
  go_enter Try.func17, Try.ntmps17
  have hne : ¬ w.heap.size = g := by omega
  have k0 : Hid ((w.alloc (.cells #[.int .i64 0, .int .i64 0, .bool false, .int .i64 0, .int .i64 0, .int .i64 0, .int .i64 0] 25)).heap[w.heap.size]? = some (.cells #[.int .i64 0, .int .i64 0, .bool false, .int .i64 0, .int .i64 0, .int .i64 0, .int .i64 0] 25 (0, 0))) := heap_alloc_new w _
  go_wp2_with fail
  refine (Coord_any _ _ hl0).mono ?_; rintro e w1 ⟨⟨v1, rfl, hv1, hv1'⟩, h1, hg1⟩; have k1 := keepb k0 hg1 hne; have G1 := gtr (gal (grefl w _) _) hg1; clear k0 hg1 hl0
  go_wp2_with fail
  refine (Coord_any _ _ h1).mono ?_; rintro e w2 ⟨⟨v2, rfl, hv2, hv2'⟩, h2, hg2⟩; have k2 := keepb k1 hg2 hne; have G2 := gtr G1 hg2; clear k1 hg2 h1 G1
  go_wp2_with fail
  refine (Coord_any _ _ h2).mono ?_; rintro e w3 ⟨⟨v3, rfl, hv3, hv3'⟩, h3, hg3⟩; have k3 := keepb k2 hg3 hne; have G3 := gtr G2 hg3; clear k2 hg3 h2 G2
  go_wp2_with fail
  refine (Coord_any _ _ h3).mono ?_; rintro e w4 ⟨⟨v4, rfl, hv4, hv4'⟩, h4, hg4⟩; have k4 := keepb k3 hg4 hne; have G4 := gtr G3 hg4; clear k3 hg4 h3 G3
  go_wp2_with fail
  have hlt4 : w.heap.size < w4.heap.size := hid_lt k4
  have k5 := keepb k4 (gal (grefl w4 (some g)) (.cells #[.int .i64 v1, .int .i64 v2, .bool false, .int .i64 0, .int .i64 0, .int .i64 v3, .int .i64 v4] 25)) hne
  have j5 : Hid ((w4.alloc (.cells #[.int .i64 v1, .int .i64 v2, .bool false, .int .i64 0, .int .i64 0, .int .i64 v3, .int .i64 v4] 25)).heap[w4.heap.size]? = some (.cells #[.int .i64 v1, .int .i64 v2, .bool false, .int .i64 0, .int .i64 0, .int .i64 v3, .int .i64 v4] 25 (0, 0))) := heap_alloc_new w4 _
  refine (Next_any _ _ _ (by omega) (LN_alloc h4 _)).mono ?_; rintro e w5 ⟨⟨v5, rfl, hv5, hv5'⟩, h5, hg5⟩
  have hne4 : ¬ w4.heap.size = g := by omega
  have k6 := keepb k5 hg5 hne
  have j6 := keepb j5 hg5 hne4
  have G5 := gtr (gal G4 _) hg5
  clear k4 k5 j5 hg5 h4 G4
  by_cases hb : 0 < v5
  · go_wp2_with fail
    refine (Coord_any _ _ h5).mono ?_; rintro e w6 ⟨⟨v6, rfl, hv6, hv6'⟩, h6, hg6⟩; have k7 := keepb k6 hg6 hne; have j7 := keepb j6 hg6 hne4; have G6 := gtr G5 hg6; clear k6 j6 hg6 h5 G5
    go_wp2_with fail
    refine (Coord_any _ _ h6).mono ?_; rintro e w7 ⟨⟨v7, rfl, hv7, hv7'⟩, h7, hg7⟩; have k8 := keepb k7 hg7 hne; have j8 := keepb j7 hg7 hne4; have G7 := gtr G6 hg7; clear k7 j7 hg7 h6 G6
    have hc := fun i => blk_cell i k8
    have hf := fun i => blk_frozen i k8
    have hd := fun i => blk_cell i j8
    have hh := fun i => blk_frozen i j8
    have hne2 : ¬ w.heap.size = w4.heap.size := by omega
    go_wp2
    refine bodyPost_ret (v := .agg #[.int .i64 v1, .int .i64 v2, .bool true, .int .i64 v6, .int .i64 v7, .int .i64 v3, .int .i64 v4]) (by simp [results, Try.results17, go_sem, hc]) rfl ?_
    go_light
    exact ⟨⟨_, _, _, _, _, _, _, rfl, ⟨hv1, hv1'⟩, ⟨hv2, hv2'⟩, ⟨hv6, hv6'⟩, ⟨hv7, hv7'⟩, ⟨hv3, hv3'⟩, ⟨hv4, hv4'⟩, .inl rfl⟩, by (repeat (refine LN_set_other ?_ (by omega) _)); exact h7, by (repeat (refine gset ?_ (by omega) _)); exact G7⟩
  · have hc := fun i => blk_cell i k6
    have hf := fun i => blk_frozen i k6
    have hd := fun i => blk_cell i j6
    have hh := fun i => blk_frozen i j6
    go_wp2
    refine bodyPost_ret (v := .agg #[.int .i64 v1, .int .i64 v2, .bool false, .int .i64 0, .int .i64 0, .int .i64 v3, .int .i64 v4]) (by simp [results, Try.results17, go_sem, hc]) rfl ?_
    go_light
    exact ⟨⟨_, _, _, _, _, _, _, rfl, ⟨hv1, hv1'⟩, ⟨hv2, hv2'⟩, ⟨by omega, by omega⟩, ⟨by omega, by omega⟩, ⟨hv3, hv3'⟩, ⟨hv4, hv4'⟩, .inr ⟨rfl, rfl⟩⟩, by (repeat (refine LN_set_other ?_ (by omega) _)); exact h5, by (repeat (refine gset ?_ (by omega) _)); exact G5⟩
end Go.Proofs.Ytpompbpdhahljaa
