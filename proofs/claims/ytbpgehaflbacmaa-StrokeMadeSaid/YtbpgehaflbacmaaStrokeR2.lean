/- The reference's arm, and what it covers: on, ahead, behind, disc, dot. -/
import Derived.Test.YtbpgehaflbacmaaStrokeR1
import Derived.Test.YtbpgehaflbacmaaStroke2
import Derived.Test.YtbpgehaflbacmaaStroke4
import Derived.Test.YtbpgehaflbacmaaAllP
import Derived.Test.YtbpgehaflbacmaaDashR3
namespace Go.Proofs.Ytbpgehaflbacmaa
open Go.RowKit

theorem arm_bd {e : Ed} {x y : Int} (he : edOK e = true) (hx : co x = true) (hy : co y = true) :
    (-536739848 ≤ armU e x y ∧ armU e x y ≤ 536739848) ∧ (-536739848 ≤ armK e x y ∧ armK e x y ≤ 536739848) ∧ (0 ≤ sqE e ∧ sqE e ≤ 536739848) := by
  rw [co_iff] at hx hy
  obtain ⟨⟨e0, e1⟩, ⟨e2, e3⟩, _, _, ⟨e4, e5⟩, ⟨e6, e7⟩, _⟩ := edOK_iff.1 he
  have d0 : -16382 ≤ e.x1 - e.x0 ∧ e.x1 - e.x0 ≤ 16382 := by omega
  have d1 : -16382 ≤ e.y1 - e.y0 ∧ e.y1 - e.y0 ≤ 16382 := by omega
  have v0 : -16382 ≤ x - e.x0 ∧ x - e.x0 ≤ 16382 := by omega
  have v1 : -16382 ≤ y - e.y0 ∧ y - e.y0 ≤ 16382 := by omega
  have bA := sq_bd d0
  have bB := sq_bd d1
  have bC := mul_pm v0 d0
  have bD := mul_pm v1 d1
  have bE := mul_pm v0 d1
  have bF := mul_pm v1 d0
  unfold armU armK sqE
  omega
set_option maxHeartbeats 1000000 in
theorem arm_any (e : Ed) (x y : Int) (w : World) (he : edOK e = true) (hx : co x = true) (hy : co y = true) :
    Calls Try.prog 34 #[.agg #[.int .i64 e.x0, .int .i64 e.y0, .bool e.bent, .int .i64 e.cx, .int .i64 e.cy, .int .i64 e.x1, .int .i64 e.y1], .int .i64 x, .int .i64 y] w
      fun e' w' => e' = .returned (.agg #[.int .i64 (armU e x y), .int .i64 (armK e x y), .int .i64 (sqE e)]) ∧ Below w.heap.size w w' := by
  rw [co_iff] at hx hy
  obtain ⟨⟨e0, e1⟩, ⟨e2, e3⟩, _, _, ⟨e4, e5⟩, ⟨e6, e7⟩, _⟩ := edOK_iff.1 he
  obtain ⟨x0, x1⟩ := hx
  obtain ⟨y0, y1⟩ := hy
  obtain ⟨dx, hdx⟩ : ∃ v, v = e.x1 - e.x0 := ⟨_, rfl⟩
  obtain ⟨dy, hdy⟩ : ∃ v, v = e.y1 - e.y0 := ⟨_, rfl⟩
  obtain ⟨vx, hvx⟩ : ∃ v, v = x - e.x0 := ⟨_, rfl⟩
  obtain ⟨vy, hvy⟩ : ∃ v, v = y - e.y0 := ⟨_, rfl⟩
  have d0 : -16382 ≤ dx ∧ dx ≤ 16382 := by omega
  have d1 : -16382 ≤ dy ∧ dy ≤ 16382 := by omega
  have v0 : -16382 ≤ vx ∧ vx ≤ 16382 := by omega
  have v1 : -16382 ≤ vy ∧ vy ≤ 16382 := by omega
  obtain ⟨A, hA⟩ : ∃ v, v = dx * dx := ⟨_, rfl⟩
  obtain ⟨B, hB⟩ : ∃ v, v = dy * dy := ⟨_, rfl⟩
  obtain ⟨C, hC⟩ : ∃ v, v = vx * dx := ⟨_, rfl⟩
  obtain ⟨D, hD⟩ : ∃ v, v = vy * dy := ⟨_, rfl⟩
  obtain ⟨E, hE⟩ : ∃ v, v = vx * dy := ⟨_, rfl⟩
  obtain ⟨F, hF⟩ : ∃ v, v = vy * dx := ⟨_, rfl⟩
  have bA := sq_bd d0
  have bB := sq_bd d1
  have bC := mul_pm v0 d0
  have bD := mul_pm v1 d1
  have bE := mul_pm v0 d1
  have bF := mul_pm v1 d0
  rw [← hA] at bA
  rw [← hB] at bB
  rw [← hC] at bC
  rw [← hD] at bD
  rw [← hE] at bE
  rw [← hF] at bF
  have hSq : sqE e = A + B := by unfold sqE; rw [← hdx, ← hdy, ← hA, ← hB]
  have hU : armU e x y = C + D := by unfold armU; rw [← hdx, ← hdy, ← hvx, ← hvy, ← hC, ← hD]
  have hKK : armK e x y = E - F := by unfold armK; rw [← hdx, ← hdy, ← hvx, ← hvy, ← hE, ← hF]
  rw [hSq, hU, hKK]
  clear hSq hU hKK he
  obtain ⟨d00, d01⟩ := d0
  obtain ⟨d10, d11⟩ := d1
  obtain ⟨v00, v01⟩ := v0
  obtain ⟨v10, v11⟩ := v1
  obtain ⟨bA0, bA1⟩ := bA
  obtain ⟨bB0, bB1⟩ := bB
  obtain ⟨bC0, bC1⟩ := bC
  obtain ⟨bD0, bD1⟩ := bD
  obtain ⟨bE0, bE1⟩ := bE
  obtain ⟨bF0, bF1⟩ := bF
  replace hdx := hdx.symm
  replace hdy := hdy.symm
  replace hvx := hvx.symm
  replace hvy := hvy.symm
  replace hA := hA.symm
  replace hB := hB.symm
  replace hC := hC.symm
  replace hD := hD.symm
  replace hE := hE.symm
  replace hF := hF.symm
  have hz : (w.alloc (.cells #[.int .i64 e.x0, .int .i64 e.y0, .bool e.bent, .int .i64 e.cx, .int .i64 e.cy, .int .i64 e.x1, .int .i64 e.y1] 68)).heap.size = w.heap.size + 1 := by simp
  have rr : ∀ (n j : Nat), j < 3 → (((w.alloc (.cells #[.int .i64 e.x0, .int .i64 e.y0, .bool e.bent, .int .i64 e.cx, .int .i64 e.cy, .int .i64 e.x1, .int .i64 e.y1] 68)).alloc (.cells #[.int .i64 0, .int .i64 0, .int .i64 0] 72)).drewN n).cell? ⟨w.heap.size + 1, j, none⟩ = some (.int .i64 0) := by
    intro n j hj
    show ((w.alloc _).alloc _).cell? ⟨w.heap.size + 1, j, none⟩ = _
    rw [← hz]
    refine (new_cell _ j).trans ?_
    rcases (by omega : j = 0 ∨ j = 1 ∨ j = 2) with rfl | rfl | rfl <;> rfl
  have ts := fun n => three_set (v0 := .int .i64 (C + D)) (v1 := .int .i64 (E - F)) (v2 := .int .i64 (A + B)) (rr n 0 (by omega)) (rr n 1 (by omega)) (rr n 2 (by omega))
  have HTS := Lib.hid ts
  clear ts rr hz
  go_enter Try.func34, Try.ntmps34
  go_wp2
  go_quiet (fail)
  go_wp2
  go_quiet (fail)
  go_wp2
  have t0 := fun n => (HTS.out n).1
  have t1 := fun n => (HTS.out n).2.1
  have t2 := fun n => (HTS.out n).2.2
  refine bodyPost_ret (v := .agg #[.int .i64 (C + D), .int .i64 (E - F), .int .i64 (A + B)]) (by simp [results, Try.results34, go_sem, t0, t1, t2]) rfl ⟨rfl, ?_⟩
  exact (((bdrewN (bal (bal (Below.refl w.heap.size w) _) _) _).setCell (p := ⟨w.heap.size + 1, 0, none⟩) (by show w.heap.size ≤ w.heap.size + 1; omega) _).setCell (p := ⟨w.heap.size + 1, 1, none⟩) (by show w.heap.size ≤ w.heap.size + 1; omega) _).setCell (p := ⟨w.heap.size + 1, 2, none⟩) (by show w.heap.size ≤ w.heap.size + 1; omega) _

set_option maxHeartbeats 1000000 in
theorem arm_near_any (u k L wd : Int) (w : World) (hk : -536739848 ≤ k ∧ k ≤ 536739848) (hL : 0 ≤ L ∧ L ≤ 536739848) (hw : WideOK wd) :
    Calls Try.prog 42 #[.agg #[.int .i64 u, .int .i64 k, .int .i64 L], .int .i64 wd] w fun e w' => e = .returned (.bool (decide (4 * (k * k) ≤ wd * wd * L))) ∧ Below w.heap.size w w' := by
  obtain ⟨K, hK⟩ : ∃ v, v = 4 * k * k := ⟨_, rfl⟩
  have hK2 : 4 * (k * k) = K := by rw [hK, Int.mul_assoc]
  have bK : 0 ≤ K ∧ K ≤ 1152358657731892416 := by
    have := sq_bd hk
    rw [← hK2]; omega
  obtain ⟨W, hW⟩ : ∃ v, v = wd * wd := ⟨_, rfl⟩
  have bW : 0 ≤ W ∧ W ≤ 4194304 := by rw [hW]; exact sq_bd (A := 2048) (by have := hw.1; have := hw.2; omega)
  obtain ⟨M, hM⟩ : ∃ v, v = W * L := ⟨_, rfl⟩
  have bM : 0 ≤ M ∧ M ≤ 4194304 * 536739848 := by rw [hM]; exact mulN_bd bW hL
  rw [hK2, ← hW, ← hM]
  obtain ⟨k0, k1⟩ := hk
  obtain ⟨l0, l1⟩ := hL
  obtain ⟨w0, w1⟩ := hw
  obtain ⟨bK0, bK1⟩ := bK
  obtain ⟨bW0, bW1⟩ := bW
  obtain ⟨bM0, bM1⟩ := bM
  replace hK := hK.symm
  replace hW := hW.symm
  replace hM := hM.symm
  clear hK2
  have hB := bal (Below.refl w.heap.size w) (.cells #[.int .i64 u, .int .i64 k, .int .i64 L] 72)
  go_enter Try.func42, Try.ntmps42
  go_wp2
  go_ret
  exact ⟨rfl, hB⟩

set_option maxHeartbeats 1000000 in
theorem arm_on_any (u k L wd : Int) (r : Bool) (w : World) (hu : -536739848 ≤ u ∧ u ≤ 536739848) (hk : -536739848 ≤ k ∧ k ≤ 536739848) (hL : 0 ≤ L ∧ L ≤ 536739848) (hw : WideOK wd) (hr : r = true ↔ 4 * (k * k) ≤ wd * wd * L ∧ 0 ≤ u ∧ u ≤ L) :
    Calls Try.prog 35 #[.agg #[.int .i64 u, .int .i64 k, .int .i64 L], .int .i64 wd] w fun e w' => e = .returned (.bool r) ∧ Below w.heap.size w w' := by
  obtain ⟨u0, u1⟩ := hu
  have hst : w.heap.size < (w.alloc (.cells #[.int .i64 u, .int .i64 k, .int .i64 L] 72)).heap.size := by simp
  have a0 := new_cell (w := w) (t := 72) #[.int .i64 u, .int .i64 k, .int .i64 L] 0
  have a2 := new_cell (w := w) (t := 72) #[.int .i64 u, .int .i64 k, .int .i64 L] 2
  have hB := bal (Below.refl w.heap.size w) (.cells #[.int .i64 u, .int .i64 k, .int .i64 L] 72)
  obtain ⟨nb, hnb⟩ : ∃ nb, nb = decide (4 * (k * k) ≤ wd * wd * L) := ⟨_, rfl⟩
  have hN := fun W => arm_near_any u k L wd W hk hL hw
  simp only [← hnb] at hN
  have HN := Lib.hid hN
  have hnb2 : (4 * (k * k) ≤ wd * wd * L) ↔ nb = true := by rw [hnb, decide_eq_true_eq]
  rw [hnb2] at hr
  have HR := Lib.hid hr
  clear hN hnb hnb2 hr
  obtain ⟨l0, l1⟩ := hL
  go_enter Try.func35, Try.ntmps35
  go_wp2_with fail
  refine (HN.out _).mono ?_; rintro e w1 ⟨rfl, hb1⟩
  replace a0 := (later_cell hb1 hst).trans a0
  replace a2 := (later_cell hb1 hst).trans a2
  have B1 := btr hB hb1
  cases nb
  · go_wp2
    go_ret
    exact ⟨ret_b (by rw [Bool.eq_iff_iff, HR.out]; simp), B1⟩
  · by_cases h1 : 0 ≤ u
    · go_wp2
      go_ret
      exact ⟨ret_b (by rw [Bool.eq_iff_iff, HR.out]; simp [h1]), B1⟩
    · go_wp2
      go_ret
      exact ⟨ret_b (by rw [Bool.eq_iff_iff, HR.out]; simp; omega), B1⟩
set_option maxHeartbeats 1000000 in
theorem arm_ahead_any (u k L wd : Int) (r : Bool) (w : World) (hu : -536739848 ≤ u ∧ u ≤ 536739848) (hk : -536739848 ≤ k ∧ k ≤ 536739848) (hL : 0 ≤ L ∧ L ≤ 536739848) (hw : WideOK wd) (hr : r = true ↔ 4 * (k * k) ≤ wd * wd * L ∧ u ≤ 0 ∧ 0 ≤ rsgn (2 * u) wd L) :
    Calls Try.prog 43 #[.agg #[.int .i64 u, .int .i64 k, .int .i64 L], .int .i64 wd] w fun e w' => e = .returned (.bool r) ∧ Below w.heap.size w w' := by
  obtain ⟨u0, u1⟩ := hu
  have hst : w.heap.size < (w.alloc (.cells #[.int .i64 u, .int .i64 k, .int .i64 L] 72)).heap.size := by simp
  have a0 := new_cell (w := w) (t := 72) #[.int .i64 u, .int .i64 k, .int .i64 L] 0
  have a2 := new_cell (w := w) (t := 72) #[.int .i64 u, .int .i64 k, .int .i64 L] 2
  have hB := bal (Below.refl w.heap.size w) (.cells #[.int .i64 u, .int .i64 k, .int .i64 L] 72)
  obtain ⟨nb, hnb⟩ : ∃ nb, nb = decide (4 * (k * k) ≤ wd * wd * L) := ⟨_, rfl⟩
  have hN := fun W => arm_near_any u k L wd W hk hL hw
  simp only [← hnb] at hN
  have HN := Lib.hid hN
  have hnb2 : (4 * (k * k) ≤ wd * wd * L) ↔ nb = true := by rw [hnb, decide_eq_true_eq]
  rw [hnb2] at hr
  have HR := Lib.hid hr
  clear hN hnb hnb2 hr
  obtain ⟨l0, l1⟩ := hL
  have hw2 := hw
  obtain ⟨ww0, ww1⟩ := hw2
  go_enter Try.func43, Try.ntmps43
  go_wp2_with fail
  refine (HN.out _).mono ?_; rintro e w1 ⟨rfl, hb1⟩
  replace a0 := (later_cell hb1 hst).trans a0
  replace a2 := (later_cell hb1 hst).trans a2
  have B1 := btr hB hb1
  cases nb
  · go_wp2
    go_ret
    exact ⟨ret_b (by rw [Bool.eq_iff_iff, HR.out]; simp), B1⟩
  · by_cases h1 : u ≤ 0
    · go_wp2_with fail
      refine (ref_Sign_any (2 * u) wd L _ (by omega) (by omega) (by omega)).mono ?_; rintro e w2 ⟨rfl, hb2⟩
      obtain ⟨z, hz⟩ : ∃ z, z = rsgn (2 * u) wd L := ⟨_, rfl⟩
      rw [← hz] at HR ⊢
      clear hz
      go_wp2
      go_ret
      exact ⟨ret_b (by rw [Bool.eq_iff_iff, HR.out]; simp [h1]), btr B1 hb2⟩
    · go_wp2
      go_ret
      exact ⟨ret_b (by rw [Bool.eq_iff_iff, HR.out]; simp; omega), B1⟩
set_option maxHeartbeats 1000000 in
theorem arm_behind_any (u k L wd : Int) (r : Bool) (w : World) (hu : -536739848 ≤ u ∧ u ≤ 536739848) (hk : -536739848 ≤ k ∧ k ≤ 536739848) (hL : 0 ≤ L ∧ L ≤ 536739848) (hw : WideOK wd) (hr : r = true ↔ 4 * (k * k) ≤ wd * wd * L ∧ L ≤ u ∧ rsgn (2 * (u - L)) (-wd) L ≤ 0) :
    Calls Try.prog 44 #[.agg #[.int .i64 u, .int .i64 k, .int .i64 L], .int .i64 wd] w fun e w' => e = .returned (.bool r) ∧ Below w.heap.size w w' := by
  obtain ⟨u0, u1⟩ := hu
  have hst : w.heap.size < (w.alloc (.cells #[.int .i64 u, .int .i64 k, .int .i64 L] 72)).heap.size := by simp
  have a0 := new_cell (w := w) (t := 72) #[.int .i64 u, .int .i64 k, .int .i64 L] 0
  have a2 := new_cell (w := w) (t := 72) #[.int .i64 u, .int .i64 k, .int .i64 L] 2
  have hB := bal (Below.refl w.heap.size w) (.cells #[.int .i64 u, .int .i64 k, .int .i64 L] 72)
  obtain ⟨nb, hnb⟩ : ∃ nb, nb = decide (4 * (k * k) ≤ wd * wd * L) := ⟨_, rfl⟩
  have hN := fun W => arm_near_any u k L wd W hk hL hw
  simp only [← hnb] at hN
  have HN := Lib.hid hN
  have hnb2 : (4 * (k * k) ≤ wd * wd * L) ↔ nb = true := by rw [hnb, decide_eq_true_eq]
  rw [hnb2] at hr
  have HR := Lib.hid hr
  clear hN hnb hnb2 hr
  obtain ⟨l0, l1⟩ := hL
  have hw2 := hw
  obtain ⟨ww0, ww1⟩ := hw2
  go_enter Try.func44, Try.ntmps44
  go_wp2_with fail
  refine (HN.out _).mono ?_; rintro e w1 ⟨rfl, hb1⟩
  replace a0 := (later_cell hb1 hst).trans a0
  replace a2 := (later_cell hb1 hst).trans a2
  have B1 := btr hB hb1
  cases nb
  · go_wp2
    go_ret
    exact ⟨ret_b (by rw [Bool.eq_iff_iff, HR.out]; simp), B1⟩
  · by_cases h1 : L ≤ u
    · go_wp2_with fail
      refine (ref_Sign_any (2 * (u - L)) (-wd) L _ (by omega) (by omega) (by omega)).mono ?_; rintro e w2 ⟨rfl, hb2⟩
      obtain ⟨z, hz⟩ : ∃ z, z = rsgn (2 * (u - L)) (-wd) L := ⟨_, rfl⟩
      rw [← hz] at HR ⊢
      clear hz
      go_wp2
      go_ret
      exact ⟨ret_b (by rw [Bool.eq_iff_iff, HR.out]; simp [h1]), btr B1 hb2⟩
    · go_wp2
      go_ret
      exact ⟨ret_b (by rw [Bool.eq_iff_iff, HR.out]; simp; omega), B1⟩
end Go.Proofs.Ytbpgehaflbacmaa
