/- cover.May, cover.Has of a valid mask; a side by a number. -/
import Derived.Test.YtbpgehaflbacmaaStrokeMask1
namespace Go.Proofs.Ytbpgehaflbacmaa
open Go.RowKit Go.BigFrame

def sideC (v : Int) : Bool := decide (1 ≤ v) && decide (v ≤ 64)
set_option maxRecDepth 100000 in
theorem cover_side_any (v : Int) (w : World) : Calls Try.prog 20 #[.int .i64 v] w fun e w' => e = .returned (.bool (sideC v)) ∧ w = w' := by
  have hs : sideC v = (decide (v ≥ 1) && decide (v ≤ 64)) := rfl
  rw [hs]
  clear hs
  go_enter Try.func20, Try.ntmps20
  go_wp2
  all_goals
    go_ret
    refine ⟨?_, rfl⟩
    first | (simp_all; done) | (simp_all; omega)
theorem bys_get {xs : List Nat} {k : Nat} (h : k < xs.length) : (bys xs)[k]? = some (.int .u8 ((xs[k] : Nat) : Int)) := by simp [bys, h]
set_option maxRecDepth 100000 in
theorem cover_May_ok (A : Option Addr) (n c a b : Nat) (xs : List Nat) (w : World) (h : Sl w 1 A n (bys xs)) (ha : 1 ≤ a ∧ a ≤ 64) (hb : 1 ≤ b ∧ b ≤ 64) (hn : a * b = n) (hx : ∀ x ∈ xs, x ≤ 1) :
    Calls Try.prog 10 #[maskV a b (.slice A n c)] w fun e w' => e = .returned (.bool true) ∧ Below w.heap.size w w' := by
  have hn1 : n ≤ 4096 := by rw [← hn]; exact Nat.le_trans (Nat.mul_le_mul ha.2 hb.2) (by omega)
  have hl : xs.length = n := by have := h.1; simp [bys] at this; omega
  have e1 : (a : Int) * (b : Int) = (n : Int) := by rw [← hn]; simp
  have hwr : wrap64 ((a : Int) * (b : Int)) = (n : Int) := by rw [e1]; exact IntWalk.wrap64_in _ (by omega)
  have hsa : sideC (a : Int) = true := by simp [sideC]; omega
  have hsb : sideC (b : Int) = true := by simp [sideC]; omega
  have C1 := fun W => cover_side_any (a : Int) W
  have C2 := fun W => cover_side_any (b : Int) W
  rw [hsa] at C1
  rw [hsb] at C2
  have HC1 := Lib.hid C1
  have HC2 := Lib.hid C2
  have HX := Lib.hid hx
  have HL := Lib.hid hl
  have HW := Lib.hid hwr
  clear hn C1 C2 hsa hsb hx hl hwr e1
  obtain ⟨w0, hw0⟩ : ∃ w0 : World, w0 = w.alloc (.cells #[.int .i64 (a : Int), .int .i64 (b : Int), .slice A n c] 31) := ⟨_, rfl⟩
  have B0 : Below w.heap.size w w0 := by rw [hw0]; exact bal (Below.refl _ _) _
  have h0 := h.below B0
  have s0 : w0.cell? ⟨w.heap.size, 0, none⟩ = some (.int .i64 (a : Int)) := by rw [hw0]; exact new_cell _ 0
  have s1 : w0.cell? ⟨w.heap.size, 1, none⟩ = some (.int .i64 (b : Int)) := by rw [hw0]; exact new_cell _ 1
  have s2 : w0.cell? ⟨w.heap.size, 2, none⟩ = some (.slice A n c) := by rw [hw0]; exact new_cell _ 2
  unfold maskV
  go_enter Try.func10, Try.ntmps10
  go_wp2_with fail
  rw [← hw0]
  clear hw0 h
  refine (HC1.out _).mono ?_; rintro e w' ⟨rfl, rfl⟩
  go_wp2_with fail
  refine (HC2.out _).mono ?_; rintro e w' ⟨rfl, rfl⟩
  have hwr := HW.out
  go_wp2
  clear hwr
  go_loopw [29] (fun s29 wr => ∃ i : Nat, i ≤ n ∧ s29 = .int .i64 (i : Int) ∧ wr = w0) (fun s29 _ => n - (intOf s29).toNat)
  case atStart => exact ⟨0, by omega, rfl, rfl⟩
  case round =>
    obtain ⟨i, hi, rfl, rfl⟩ := hrel
    by_cases hiN : i < n
    · have hix : i < xs.length := by rw [HL.out]; exact hiN
      obtain ⟨bb, off, rfl, hlt, hc⟩ := h0.2 (by omega)
      have hcb := hc i _ (bys_get hix)
      have hle := HX.out _ (List.getElem_mem hix)
      obtain ⟨z, hz⟩ : ∃ z, xs[i] = z := ⟨_, rfl⟩
      rw [hz] at hcb hle
      clear hc hz hix
      go_wp2
      go_roundw
      case rel => exact ⟨i + 1, by omega, by go_num, by simp⟩
      case measure => simp [intOf]; omega
    · obtain rfl : i = n := by omega
      go_wp2
      go_ret
      exact ⟨rfl, B0⟩
set_option maxRecDepth 100000 in
theorem cover_Has_ok (A : Option Addr) (n c a b : Nat) (xs : List Nat) (i j k : Nat) (r : Bool) (w : World) (h : Sl w 1 A n (bys xs)) (ha : 1 ≤ a ∧ a ≤ 64) (hb : 1 ≤ b ∧ b ≤ 64) (hn : a * b = n) (hx : ∀ x ∈ xs, x ≤ 1)
    (hi : i < a) (hj : j < b) (hk : j * a + i = k) (hr : xs[k]? = some (bitB r)) :
    Calls Try.prog 14 #[maskV a b (.slice A n c), .int .i64 (i : Int), .int .i64 (j : Int)] w fun e w' => e = .returned (.bool r) ∧ Below w.heap.size w w' := by
  have hn1 : n ≤ 4096 := by rw [← hn]; exact Nat.le_trans (Nat.mul_le_mul ha.2 hb.2) (by omega)
  have hl : xs.length = n := by have := h.1; simp [bys] at this; omega
  have hkn : k < n := by
    rw [← hl]
    by_cases q : k < xs.length
    · exact q
    · rw [List.getElem?_eq_none (by omega)] at hr; cases hr
  have e1 : (j : Int) * (a : Int) = ((j * a : Nat) : Int) := by simp
  have e0 : j * a ≤ 4096 := Nat.le_trans (Nat.mul_le_mul (show j ≤ 64 by omega) ha.2) (by omega)
  obtain ⟨p, hp⟩ : ∃ p, j * a = p := ⟨_, rfl⟩
  rw [hp] at hk e1 e0
  have hwr : wrap64 ((j : Int) * (a : Int)) = (p : Int) := by rw [e1]; exact IntWalk.wrap64_in _ (by omega)
  have hk2 : (p : Int) + (i : Int) = (k : Int) := by omega
  have C1 := fun W (g : Sl W 1 A n (bys xs)) => cover_May_ok A n c a b xs W g ha hb hn hx
  have HC1 := Lib.hid C1
  have HW := Lib.hid hwr
  obtain ⟨w0, hw0⟩ : ∃ w0 : World, w0 = w.alloc (.cells #[.int .i64 (a : Int), .int .i64 (b : Int), .slice A n c] 31) := ⟨_, rfl⟩
  have B0 : Below w.heap.size w w0 := by rw [hw0]; exact bal (Below.refl _ _) _
  have h0 := h.below B0
  have s0 : w0.cell? ⟨w.heap.size, 0, none⟩ = some (.int .i64 (a : Int)) := by rw [hw0]; exact new_cell _ 0
  have s1 : w0.cell? ⟨w.heap.size, 1, none⟩ = some (.int .i64 (b : Int)) := by rw [hw0]; exact new_cell _ 1
  have s2 : w0.cell? ⟨w.heap.size, 2, none⟩ = some (.slice A n c) := by rw [hw0]; exact new_cell _ 2
  have hz0 : w.heap.size < w0.heap.size := by rw [hw0]; simp
  obtain ⟨bb, off, rfl, hlt, hc⟩ := h0.2 (by omega)
  have hcb := hc k (.int .u8 ((bitB r : Nat) : Int)) (by simp [bys, hr])
  clear hc hn hx e1 e0 hp hr hl C1 hwr
  unfold maskV
  unfold maskV at HC1
  go_enter Try.func14, Try.ntmps14
  go_wp2_with fail
  rw [← hw0]
  clear hw0 h
  refine (HC1.out _ h0).mono ?_; rintro e w1 ⟨rfl, hb1⟩
  replace s0 := (later_cell hb1 hz0).trans s0
  replace s1 := (later_cell hb1 hz0).trans s1
  replace s2 := (later_cell hb1 hz0).trans s2
  replace hcb := (later_cell hb1 hlt).trans hcb
  have B1 := btr B0 hb1
  have hwr := HW.out
  clear hb1 B0 hz0 h0
  cases r
  all_goals
    simp only [bitB, if_true, if_false, Bool.false_eq_true] at hcb
    go_wp2
    go_ret
    exact ⟨rfl, B1⟩
set_option maxRecDepth 100000 in
theorem lawSide_any (v : Int) (w : World) : Calls Try.prog 8 #[.int .i64 v] w fun e w' => ∃ k : Nat, e = .returned (.int .i64 (k : Int)) ∧ 1 ≤ k ∧ k ≤ 14 ∧ (1 + placeI v 14 = (k : Int)) ∧ w = w' := by
  have hp : 0 ≤ placeI v 14 ∧ placeI v 14 < 14 := by unfold placeI; omega
  obtain ⟨k, hk⟩ : ∃ k : Nat, placeI v 14 = (k : Int) := ⟨(placeI v 14).toNat, by omega⟩
  have HK := Lib.hid hk
  rw [hk] at hp
  clear hk
  go_enter Try.func8, Try.ntmps8
  go_wp2_with fail
  refine (Place_any v 14 _ (by omega) (by omega)).mono ?_; rintro e w' ⟨rfl, rfl⟩
  rw [HK.out]
  go_wp2
  go_ret
  exact ⟨1 + k, ret_int (by omega), by omega, by omega, by rw [HK.out]; omega, rfl⟩
end Go.Proofs.Ytbpgehaflbacmaa
