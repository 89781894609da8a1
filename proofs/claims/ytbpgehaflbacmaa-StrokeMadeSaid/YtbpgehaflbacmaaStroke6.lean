/- tympanlaw33: the document's examples, styles and points by numbers. -/
import Derived.Test.YtbpgehaflbacmaaStroke5
import Derived.Test.YtbpgehaflbacmaaMade
import Derived.Test.YtbpgehaflbacmaaAllP
namespace Go.Proofs.Ytbpgehaflbacmaa
open Go.RowKit

def styI (v : Int) : Sy := ⟨placeI v 1048576 / 6 % 130, placeI v 1048576 % 3, placeI v 1048576 / 3 % 2⟩
def pntI (v : Int) : Int := placeI v 480 - 100
theorem styI_ok (v : Int) : 0 ≤ (styI v).wide ∧ (styI v).wide < 130 ∧ 0 ≤ (styI v).cap ∧ (styI v).cap ≤ 2 ∧ 0 ≤ (styI v).join ∧ (styI v).join ≤ 1 := by
  unfold styI; dsimp only; omega
theorem pntI_ok (v : Int) : -100 ≤ pntI v ∧ pntI v ≤ 379 := by unfold pntI placeI; omega

theorem Place_big2 (v n : Int) (w : World) (hn : 0 < n) (hn' : n ≤ 2000000) :
    Calls Try.prog 16 #[.int .i64 v, .int .i64 n] w fun e w' => e = .returned (.int .i64 (placeI v n)) ∧ w = w' := by
  obtain ⟨h1, h2, h3, h4⟩ := tmod_emod v n hn
  have H3 := Lib.hid h3
  have H4 := Lib.hid h4
  clear h3 h4
  by_cases h : v.tmod n < 0
  · go_enter Try.func16, Try.ntmps16
    go_wp2
    go_ret
    exact ⟨ret_int (H3.out h), rfl⟩
  · go_enter Try.func16, Try.ntmps16
    go_wp2
    go_ret
    exact ⟨ret_int (H4.out h), rfl⟩

theorem point_any (v : Int) (w : World) : Calls Try.prog 12 #[.int .i64 v] w fun e w' => e = .returned (.int .i64 (pntI v)) ∧ w = w' := by
  have hp : 0 ≤ placeI v 480 ∧ placeI v 480 < 480 := by unfold placeI; omega
  go_enter Try.func12, Try.ntmps12
  go_wp2_with fail
  refine (Place_any v 480 _ (by omega) (by omega)).mono ?_; rintro e w' ⟨rfl, rfl⟩
  obtain ⟨h0, h1⟩ := hp
  go_wp2
  go_ret
  exact ⟨rfl, rfl⟩
theorem Style_any (v : Int) (w : World) : Calls Try.prog 6 #[.int .i64 v] w fun e w' => e = .returned (syc (styI v)) ∧ Below w.heap.size w w' := by
  have hp : 0 ≤ placeI v 1048576 ∧ placeI v 1048576 < 1048576 := by unfold placeI; omega
  go_enter Try.func6, Try.ntmps6
  go_wp2_with fail
  refine (Place_big2 v 1048576 _ (by omega) (by omega)).mono ?_; rintro e w' ⟨rfl, rfl⟩
  obtain ⟨S, hS⟩ : ∃ S, S = syc (styI v) := ⟨_, rfl⟩
  have HS := Lib.hid hS
  have hd : S = .agg #[.int .i64 (placeI v 1048576 / 6 % 130), .int .i64 (placeI v 1048576 % 3), .int .i64 (placeI v 1048576 / 3 % 2)] := hS
  clear hS
  obtain ⟨k, hk⟩ : ∃ k, k = placeI v 1048576 := ⟨_, rfl⟩
  rw [← hk] at hp hd ⊢
  have HK := Lib.hid hk
  have HD := Lib.hid hd
  clear hk hd
  obtain ⟨h0, h1⟩ := hp
  have t1 : k.tdiv 6 = k / 6 := Int.tdiv_eq_ediv_of_nonneg h0
  have t2 : k.tdiv 3 = k / 3 := Int.tdiv_eq_ediv_of_nonneg h0
  have t3 : (k / 6).tmod 130 = k / 6 % 130 := Int.tmod_eq_emod_of_nonneg (by omega)
  have t4 : k.tmod 3 = k % 3 := Int.tmod_eq_emod_of_nonneg h0
  have t5 : (k / 3).tmod 2 = k / 3 % 2 := Int.tmod_eq_emod_of_nonneg (by omega)
  go_wp2
  refine bodyPost_ret (v := .agg #[.int .i64 (k / 6 % 130), .int .i64 (k % 3), .int .i64 (k / 3 % 2)]) (by simp [results, Try.results6, go_sem]) rfl ⟨?_, bal (Below.refl _ _) _⟩
  rw [← HD.out, HS.out]

theorem kn1 : inL (oneL 0 0 16 0) ⟨8, 0, 0⟩ 8 4 = true := by decide
theorem kn2 : inL (oneL 0 0 16 0) ⟨8, 0, 0⟩ 8 5 = false := by decide
theorem kn3 : inL (oneL 0 0 16 0) ⟨8, 0, 0⟩ (-1) 0 = false := by decide
theorem kn4 : inL (oneL 0 0 16 0) ⟨8, 2, 0⟩ (-4) 4 = true := by decide
theorem kn5 : inL (oneL 0 0 16 0) ⟨8, 2, 0⟩ (-5) 0 = false := by decide
theorem kn6 : inL [⟨1, 8, 8, 0, 0⟩, ⟨4, 0, 0, 0, 0⟩] ⟨16, 1, 0⟩ 8 16 = true := by decide
theorem kn7 : inL [⟨1, 8, 8, 0, 0⟩, ⟨4, 0, 0, 0, 0⟩] ⟨16, 1, 0⟩ 14 14 = false := by decide

theorem cell_at {w : World} (cs : Array Value) (t : TypeId) (j g : Nat) (hg : w.heap.size = g) : (w.alloc (.cells cs t)).cell? ⟨g, j, none⟩ = cs[j]? := by subst hg; exact new_cell _ j
theorem cell_at1 {w : World} (cs : Array Value) (t : TypeId) (o : Obj) (j g : Nat) (hg : w.heap.size = g) : ((w.alloc (.cells cs t)).alloc o).cell? ⟨g, j, none⟩ = cs[j]? :=
  (later_cell (bal (Below.refl _ _) _) (by simp; omega)).trans (cell_at cs t j g hg)
theorem cell_at2 {w : World} (cs : Array Value) (t : TypeId) (o o' : Obj) (j g : Nat) (hg : w.heap.size = g) : (((w.alloc (.cells cs t)).alloc o).alloc o').cell? ⟨g, j, none⟩ = cs[j]? :=
  (later_cell (bal (bal (Below.refl _ _) _) _) (by simp; omega)).trans (cell_at cs t j g hg)

set_option maxHeartbeats 1000000 in
theorem known33_any (w : World) : Calls Try.prog 4 #[] w fun e w' => e = .returned (.bool true) ∧ Below w.heap.size w w' := by
  obtain ⟨W0, hW0⟩ : ∃ W0 : World, W0 = ((((w.alloc (.cells #[.int .i64 1, .int .i64 0, .int .i64 0, .int .i64 0, .int .i64 0, .int .i64 2, .int .i64 16, .int .i64 0, .int .i64 0, .int .i64 0] 42)).alloc (.cells #[.int .i64 1, .int .i64 8, .int .i64 8, .int .i64 0, .int .i64 0, .int .i64 4, .int .i64 0, .int .i64 0, .int .i64 0, .int .i64 0] 42)).alloc (.cells #[.int .i64 8, .int .i64 0, .int .i64 0] 27)).alloc (.cells #[.int .i64 8, .int .i64 2, .int .i64 0] 27)).alloc (.cells #[.int .i64 16, .int .i64 1, .int .i64 0] 27) := ⟨_, rfl⟩
  have hB : Below w.heap.size w W0 := by rw [hW0]; exact bal (bal (bal (bal (bal (Below.refl _ _) _) _) _) _) _
  have hl : Sl W0 5 (some ⟨w.heap.size, 0, none⟩) 2 (sgs (oneL 0 0 16 0)) := by
    have h1 : Sl (w.alloc (.cells #[.int .i64 1, .int .i64 0, .int .i64 0, .int .i64 0, .int .i64 0, .int .i64 2, .int .i64 16, .int .i64 0, .int .i64 0, .int .i64 0] 42)) 5 (some ⟨w.heap.size, 0, none⟩) 2 (sgs (oneL 0 0 16 0)) := sl_newN _ rfl rfl
    rw [hW0]; exact h1.below (bal (bal (bal (bal (Below.refl _ _) _) _) _) _)
  have hd : Sl W0 5 (some ⟨w.heap.size + 1, 0, none⟩) 2 (sgs [⟨1, 8, 8, 0, 0⟩, ⟨4, 0, 0, 0, 0⟩]) := by
    have h1 : Sl ((w.alloc (.cells #[.int .i64 1, .int .i64 0, .int .i64 0, .int .i64 0, .int .i64 0, .int .i64 2, .int .i64 16, .int .i64 0, .int .i64 0, .int .i64 0] 42)).alloc (.cells #[.int .i64 1, .int .i64 8, .int .i64 8, .int .i64 0, .int .i64 0, .int .i64 4, .int .i64 0, .int .i64 0, .int .i64 0, .int .i64 0] 42)) 5 (some ⟨w.heap.size + 1, 0, none⟩) 2 (sgs [⟨1, 8, 8, 0, 0⟩, ⟨4, 0, 0, 0, 0⟩]) := sl_newN _ (by simp) rfl
    rw [hW0]; exact h1.below (bal (bal (bal (Below.refl _ _) _) _) _)
  have a0 : W0.cell? ⟨w.heap.size + 1 + 1, 0, none⟩ = some (.int .i64 8) := by rw [hW0]; exact cell_at2 _ _ _ _ 0 _ (by simp)
  have a1 : W0.cell? ⟨w.heap.size + 1 + 1, 1, none⟩ = some (.int .i64 0) := by rw [hW0]; exact cell_at2 _ _ _ _ 1 _ (by simp)
  have a2 : W0.cell? ⟨w.heap.size + 1 + 1, 2, none⟩ = some (.int .i64 0) := by rw [hW0]; exact cell_at2 _ _ _ _ 2 _ (by simp)
  have b0 : W0.cell? ⟨w.heap.size + 1 + 1 + 1, 0, none⟩ = some (.int .i64 8) := by rw [hW0]; exact cell_at1 _ _ _ 0 _ (by simp)
  have b1 : W0.cell? ⟨w.heap.size + 1 + 1 + 1, 1, none⟩ = some (.int .i64 2) := by rw [hW0]; exact cell_at1 _ _ _ 1 _ (by simp)
  have b2 : W0.cell? ⟨w.heap.size + 1 + 1 + 1, 2, none⟩ = some (.int .i64 0) := by rw [hW0]; exact cell_at1 _ _ _ 2 _ (by simp)
  have c0 : W0.cell? ⟨w.heap.size + 1 + 1 + 1 + 1, 0, none⟩ = some (.int .i64 16) := by rw [hW0]; exact cell_at _ _ 0 _ (by simp)
  have c1 : W0.cell? ⟨w.heap.size + 1 + 1 + 1 + 1, 1, none⟩ = some (.int .i64 1) := by rw [hW0]; exact cell_at _ _ 1 _ (by simp)
  have c2 : W0.cell? ⟨w.heap.size + 1 + 1 + 1 + 1, 2, none⟩ = some (.int .i64 0) := by rw [hW0]; exact cell_at _ _ 2 _ (by simp)
  have za : w.heap.size + 1 + 1 < W0.heap.size := by rw [hW0]; simp
  have zb : w.heap.size + 1 + 1 + 1 < W0.heap.size := by rw [hW0]; simp
  have zc : w.heap.size + 1 + 1 + 1 + 1 < W0.heap.size := by rw [hW0]; simp
  go_enter Try.func4, Try.ntmps4
  go_wp2_with fail
  rw [← hW0]
  clear hW0
  try go_wp2_with fail
  refine (stroke_In_any _ 2 _ (oneL 0 0 16 0) (⟨8, 0, 0⟩) (8) (4) _ (by omega) hl).mono ?_; rintro e wn ⟨rfl, hbn⟩
  rw [kn1]
  replace hl := hl.below hbn
  replace hd := hd.below hbn
  replace a0 := (later_cell hbn za).trans a0
  replace a1 := (later_cell hbn za).trans a1
  replace a2 := (later_cell hbn za).trans a2
  replace b0 := (later_cell hbn zb).trans b0
  replace b1 := (later_cell hbn zb).trans b1
  replace b2 := (later_cell hbn zb).trans b2
  replace c0 := (later_cell hbn zc).trans c0
  replace c1 := (later_cell hbn zc).trans c1
  replace c2 := (later_cell hbn zc).trans c2
  replace za := Nat.lt_of_lt_of_le za hbn.size
  replace zb := Nat.lt_of_lt_of_le zb hbn.size
  replace zc := Nat.lt_of_lt_of_le zc hbn.size
  replace hB := btr hB hbn
  clear hbn
  try go_wp2_with fail
  refine (stroke_In_any _ 2 _ (oneL 0 0 16 0) (⟨8, 0, 0⟩) (8) (5) _ (by omega) hl).mono ?_; rintro e wn ⟨rfl, hbn⟩
  rw [kn2]
  replace hl := hl.below hbn
  replace hd := hd.below hbn
  replace a0 := (later_cell hbn za).trans a0
  replace a1 := (later_cell hbn za).trans a1
  replace a2 := (later_cell hbn za).trans a2
  replace b0 := (later_cell hbn zb).trans b0
  replace b1 := (later_cell hbn zb).trans b1
  replace b2 := (later_cell hbn zb).trans b2
  replace c0 := (later_cell hbn zc).trans c0
  replace c1 := (later_cell hbn zc).trans c1
  replace c2 := (later_cell hbn zc).trans c2
  replace za := Nat.lt_of_lt_of_le za hbn.size
  replace zb := Nat.lt_of_lt_of_le zb hbn.size
  replace zc := Nat.lt_of_lt_of_le zc hbn.size
  replace hB := btr hB hbn
  clear hbn
  try go_wp2_with fail
  refine (stroke_In_any _ 2 _ (oneL 0 0 16 0) (⟨8, 0, 0⟩) (-1) (0) _ (by omega) hl).mono ?_; rintro e wn ⟨rfl, hbn⟩
  rw [kn3]
  replace hl := hl.below hbn
  replace hd := hd.below hbn
  replace a0 := (later_cell hbn za).trans a0
  replace a1 := (later_cell hbn za).trans a1
  replace a2 := (later_cell hbn za).trans a2
  replace b0 := (later_cell hbn zb).trans b0
  replace b1 := (later_cell hbn zb).trans b1
  replace b2 := (later_cell hbn zb).trans b2
  replace c0 := (later_cell hbn zc).trans c0
  replace c1 := (later_cell hbn zc).trans c1
  replace c2 := (later_cell hbn zc).trans c2
  replace za := Nat.lt_of_lt_of_le za hbn.size
  replace zb := Nat.lt_of_lt_of_le zb hbn.size
  replace zc := Nat.lt_of_lt_of_le zc hbn.size
  replace hB := btr hB hbn
  clear hbn
  try go_wp2_with fail
  refine (stroke_In_any _ 2 _ (oneL 0 0 16 0) (⟨8, 2, 0⟩) (-4) (4) _ (by omega) hl).mono ?_; rintro e wn ⟨rfl, hbn⟩
  rw [kn4]
  replace hl := hl.below hbn
  replace hd := hd.below hbn
  replace a0 := (later_cell hbn za).trans a0
  replace a1 := (later_cell hbn za).trans a1
  replace a2 := (later_cell hbn za).trans a2
  replace b0 := (later_cell hbn zb).trans b0
  replace b1 := (later_cell hbn zb).trans b1
  replace b2 := (later_cell hbn zb).trans b2
  replace c0 := (later_cell hbn zc).trans c0
  replace c1 := (later_cell hbn zc).trans c1
  replace c2 := (later_cell hbn zc).trans c2
  replace za := Nat.lt_of_lt_of_le za hbn.size
  replace zb := Nat.lt_of_lt_of_le zb hbn.size
  replace zc := Nat.lt_of_lt_of_le zc hbn.size
  replace hB := btr hB hbn
  clear hbn
  try go_wp2_with fail
  refine (stroke_In_any _ 2 _ (oneL 0 0 16 0) (⟨8, 2, 0⟩) (-5) (0) _ (by omega) hl).mono ?_; rintro e wn ⟨rfl, hbn⟩
  rw [kn5]
  replace hl := hl.below hbn
  replace hd := hd.below hbn
  replace a0 := (later_cell hbn za).trans a0
  replace a1 := (later_cell hbn za).trans a1
  replace a2 := (later_cell hbn za).trans a2
  replace b0 := (later_cell hbn zb).trans b0
  replace b1 := (later_cell hbn zb).trans b1
  replace b2 := (later_cell hbn zb).trans b2
  replace c0 := (later_cell hbn zc).trans c0
  replace c1 := (later_cell hbn zc).trans c1
  replace c2 := (later_cell hbn zc).trans c2
  replace za := Nat.lt_of_lt_of_le za hbn.size
  replace zb := Nat.lt_of_lt_of_le zb hbn.size
  replace zc := Nat.lt_of_lt_of_le zc hbn.size
  replace hB := btr hB hbn
  clear hbn
  try go_wp2_with fail
  refine (stroke_In_any _ 2 _ ([⟨1, 8, 8, 0, 0⟩, ⟨4, 0, 0, 0, 0⟩]) (⟨16, 1, 0⟩) (8) (16) _ (by omega) hd).mono ?_; rintro e wn ⟨rfl, hbn⟩
  rw [kn6]
  replace hl := hl.below hbn
  replace hd := hd.below hbn
  replace a0 := (later_cell hbn za).trans a0
  replace a1 := (later_cell hbn za).trans a1
  replace a2 := (later_cell hbn za).trans a2
  replace b0 := (later_cell hbn zb).trans b0
  replace b1 := (later_cell hbn zb).trans b1
  replace b2 := (later_cell hbn zb).trans b2
  replace c0 := (later_cell hbn zc).trans c0
  replace c1 := (later_cell hbn zc).trans c1
  replace c2 := (later_cell hbn zc).trans c2
  replace za := Nat.lt_of_lt_of_le za hbn.size
  replace zb := Nat.lt_of_lt_of_le zb hbn.size
  replace zc := Nat.lt_of_lt_of_le zc hbn.size
  replace hB := btr hB hbn
  clear hbn
  try go_wp2_with fail
  refine (stroke_In_any _ 2 _ ([⟨1, 8, 8, 0, 0⟩, ⟨4, 0, 0, 0, 0⟩]) (⟨16, 1, 0⟩) (14) (14) _ (by omega) hd).mono ?_; rintro e wn ⟨rfl, hbn⟩
  rw [kn7]
  replace hl := hl.below hbn
  replace hd := hd.below hbn
  replace a0 := (later_cell hbn za).trans a0
  replace a1 := (later_cell hbn za).trans a1
  replace a2 := (later_cell hbn za).trans a2
  replace b0 := (later_cell hbn zb).trans b0
  replace b1 := (later_cell hbn zb).trans b1
  replace b2 := (later_cell hbn zb).trans b2
  replace c0 := (later_cell hbn zc).trans c0
  replace c1 := (later_cell hbn zc).trans c1
  replace c2 := (later_cell hbn zc).trans c2
  replace za := Nat.lt_of_lt_of_le za hbn.size
  replace zb := Nat.lt_of_lt_of_le zb hbn.size
  replace zc := Nat.lt_of_lt_of_le zc hbn.size
  replace hB := btr hB hbn
  clear hbn
  go_wp2
  go_ret
  exact ⟨rfl, hB⟩
end Go.Proofs.Ytbpgehaflbacmaa
