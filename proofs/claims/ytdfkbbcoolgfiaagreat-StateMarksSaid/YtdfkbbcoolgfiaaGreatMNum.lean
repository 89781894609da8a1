/- The walks of layer 27's numbers: Place, size, over. -/
import Derived.Test.YtdfkbbcoolgfiaaGreatProg
import Derived.Test.YtdfkbbcoolgfiaaGreatAllP
import Derived.Deep.Light
import Derived.Laws.BitsAllLaws
import Derived.Laws.BitsLemmas
namespace Go.Proofs.YtdfkbbcoolgfiaaGreat
open Go.RowKit

theorem tmod_emod (v n : Int) (hn : 0 < n) : -n < v.tmod n ∧ v.tmod n < n ∧ (v.tmod n < 0 → v.tmod n + n = v % n) ∧ (¬ v.tmod n < 0 → v.tmod n = v % n) := by
  have h1 : v.tmod n < n := Int.tmod_lt_of_pos v hn
  have h2 : -n < v.tmod n := by
    have := Int.tmod_lt_of_pos (-v) hn
    rw [Int.neg_tmod] at this; omega
  have h3 : (v.tmod n) % n = v % n := by
    have h := Int.mul_tdiv_add_tmod v n
    have e : v % n = (n * v.tdiv n + v.tmod n) % n := by rw [h]
    rw [e, Int.add_comm, Int.add_mul_emod_self_left]
  refine ⟨h2, h1, fun h => ?_, fun h => ?_⟩
  · rw [← h3, ← Int.add_emod_right, Int.emod_eq_of_lt (by omega) (by omega)]
  · rw [← h3, Int.emod_eq_of_lt (by omega) h1]

theorem tdiv_floor (v n : Int) (hn : 0 < n) : (v.tmod n < 0 → v.tdiv n - 1 = v / n) ∧ (¬ v.tmod n < 0 → v.tdiv n = v / n) := by
  obtain ⟨h1, h2, h3, h4⟩ := tmod_emod v n hn
  have ha := Int.mul_tdiv_add_tmod v n
  have hb := Int.mul_ediv_add_emod v n
  refine ⟨fun h => ?_, fun h => ?_⟩
  · have := h3 h
    have e : n * (v.tdiv n - 1) = n * (v / n) := by rw [Int.mul_sub, Int.mul_one]; omega
    exact Int.eq_of_mul_eq_mul_left (by omega) e
  · have := h4 h
    have e : n * (v.tdiv n) = n * (v / n) := by omega
    exact Int.eq_of_mul_eq_mul_left (by omega) e

theorem i64_and_one (q : Int) : bits .and .i64 q 1 = q % 2 := by
  show IntKind.i64.wrap ((BitVec.ofInt 64 q &&& BitVec.ofInt 64 1).toNat : Int) = _
  have h : (BitVec.ofInt 64 q &&& BitVec.ofInt 64 1).toNat = (q % 2).toNat := by
    rw [BitVec.toNat_and]
    have : (BitVec.ofInt 64 1).toNat = 1 := by decide
    rw [this, Nat.and_one_is_mod, BitVec.toNat_ofInt]
    omega
  rw [h, IntKind.wrap_i64]
  omega

set_option maxHeartbeats 400000 in
theorem size_any (v : Int) (w : World) (hv : -100000000 ≤ v ∧ v ≤ 100000000) :
    Calls Tryz.prog 154 #[.int .i64 v] w fun e w' => e = .returned (.int .i64 (sizeI v)) ∧ w = w' := by
  obtain ⟨ha, hb⟩ := hv
  go_enter Tryz.func154, Tryz.ntmps154
  go_wp2
  all_goals (go_ret; exact ⟨ret_int (by unfold sizeI; omega), rfl⟩)

theorem over_facts (v m : Int) (hv : -600000000 ≤ v ∧ v ≤ 600000000) (hm : 1 ≤ m ∧ m ≤ 16384) :
    (-600000000 ≤ v.tdiv m ∧ v.tdiv m ≤ 600000000) ∧ (-700000000 ≤ v.tdiv m * m ∧ v.tdiv m * m ≤ 700000000) ∧ (-700000000 ≤ (v.tdiv m - 1) * m ∧ (v.tdiv m - 1) * m ≤ 700000000) := by
  obtain ⟨h1, h2, _, _⟩ := tmod_emod v m (by omega)
  have ha := Int.mul_tdiv_add_tmod v m
  have hb : v.tdiv m * m = v - v.tmod m := by rw [Int.mul_comm]; omega
  have hc : (v.tdiv m - 1) * m = v.tdiv m * m - m := by rw [Int.sub_mul, Int.one_mul]
  have hd : -600000000 ≤ v.tdiv m ∧ v.tdiv m ≤ 600000000 := by
    constructor
    · apply Decidable.byContradiction; intro h
      have : m * v.tdiv m ≤ m * (-600000001) := Int.mul_le_mul_of_nonneg_left (by omega) (by omega)
      omega
    · apply Decidable.byContradiction; intro h
      have : m * 600000001 ≤ m * v.tdiv m := Int.mul_le_mul_of_nonneg_left (by omega) (by omega)
      omega
  omega
theorem over_lo {v m q x : Int} (hq : q = v / m) (_hm : 0 < m) (h1 : 2 * (v - q * m) ≤ m) (h2 : ¬ 2 * (v - q * m) = m ∨ (bits BinOp.and IntKind.i64 q 1 != 0) = false) (hx : x = q) : x = rnd v m := by
  subst hq; subst hx
  have e : v - v / m * m = v % m := by have := Int.mul_ediv_add_emod v m; rw [Int.mul_comm (v / m) m]; omega
  rw [e] at h1 h2
  rw [i64_and_one] at h2
  unfold rnd
  rw [if_neg]
  rintro (h | ⟨h, h'⟩)
  · omega
  · rcases h2 with h2 | h2
    · exact h2 h
    · simp at h2; omega
theorem over_hi {v m q x : Int} (hq : q = v / m) (_hm : 0 < m) (h : m < 2 * (v - q * m) ∨ (2 * (v - q * m) = m ∧ (bits BinOp.and IntKind.i64 q 1 != 0) = true)) (hx : x = q + 1) : x = rnd v m := by
  subst hq; subst hx
  have e : v - v / m * m = v % m := by have := Int.mul_ediv_add_emod v m; rw [Int.mul_comm (v / m) m]; omega
  rw [e] at h
  rw [i64_and_one] at h
  unfold rnd
  rw [if_pos]
  rcases h with h | ⟨h, h'⟩
  · exact .inl h
  · refine .inr ⟨h, ?_⟩
    simp at h'; omega

set_option maxHeartbeats 400000 in
theorem over_any (v m : Int) (w : World) (hv : -600000000 ≤ v ∧ v ≤ 600000000) (hm : 1 ≤ m ∧ m ≤ 16384) :
    Calls Tryz.prog 120 #[.int .i64 v, .int .i64 m] w fun e w' => e = .returned (.int .i64 (rnd v m)) ∧ w = w' := by
  obtain ⟨⟨b1, b2⟩, ⟨b3, b4⟩, b5, b6⟩ := over_facts v m hv hm
  obtain ⟨k1, k2⟩ := tdiv_floor v m (by omega)
  have K1 := Lib.hid k1
  have K2 := Lib.hid k2
  clear k1 k2
  obtain ⟨ha, hb⟩ := hv
  obtain ⟨hc, hd⟩ := hm
  by_cases ht : v.tmod m < 0
  · go_enter Tryz.func120, Tryz.ntmps120
    go_wp2
    all_goals (go_ret; refine ⟨ret_int ?_, rfl⟩; go_light)
    all_goals first
      | (refine over_lo (K1.out ht) (by omega) (by omega) ?_ rfl; first | exact .inl (by assumption) | exact .inr (by assumption))
      | (refine over_hi (K1.out ht) (by omega) ?_ (by omega); first | exact .inl (by assumption) | exact .inr ⟨by assumption, by assumption⟩)
  · go_enter Tryz.func120, Tryz.ntmps120
    go_wp2
    all_goals (go_ret; refine ⟨ret_int ?_, rfl⟩; go_light)
    all_goals first
      | (refine over_lo (K2.out ht) (by omega) (by omega) ?_ rfl; first | exact .inl (by assumption) | exact .inr (by assumption))
      | (refine over_hi (K2.out ht) (by omega) ?_ (by omega); first | exact .inl (by assumption) | exact .inr ⟨by assumption, by assumption⟩)
end Go.Proofs.YtdfkbbcoolgfiaaGreat

namespace Go.Proofs.YtdfkbbcoolgfiaaGreat
open Go.RowKit

/-- Block g is an L: its numbers lie in a block ahead of it. -/
def LN (w : World) (g : Nat) : Prop :=
  ∃ (A : Option Addr) (n c : Nat), w.cell? ⟨g, 0, none⟩ = some (.slice A n c) ∧ w.frozen? ⟨g, 0, none⟩ = false ∧ n ≤ c ∧ c ≤ 9223372036854775807 ∧ g < w.heap.size ∧
    (0 < n → ∃ b off : Nat, A = some ⟨b, off, none⟩ ∧ b < g ∧ ∀ j, j < n → ∃ z : Int, w.cell? ⟨b, off + j, none⟩ = some (.int .i64 z))

theorem LN_set {w : World} {g : Nat} {A : Option Addr} {n c : Nat} {u : Value} (hc : w.cell? ⟨g, 0, none⟩ = some u) (hf : w.frozen? ⟨g, 0, none⟩ = false) (hg : g < w.heap.size) (hnc : n ≤ c) (hcm : c ≤ 9223372036854775807)
    (hr : 0 < n → ∃ b off : Nat, A = some ⟨b, off, none⟩ ∧ b < g ∧ ∀ j, j < n → ∃ z : Int, w.cell? ⟨b, off + j, none⟩ = some (.int .i64 z)) :
    LN (w.setCell ⟨g, 0, none⟩ (.slice A n c)) g ∧ w.grownBy (w.setCell ⟨g, 0, none⟩ (.slice A n c)) (some g) := by
  refine ⟨⟨A, n, c, World.cell?_setCell_same _ _ _ hc, ?_, hnc, hcm, by simpa [World.setCell] using hg, fun h0 => ?_⟩, ⟨rfl, rfl, rfl, by simp [World.setCell], fun k _ hk => heap_setCell_other w ⟨g, 0, none⟩ k _ (fun e => hk (by simp [e]))⟩⟩
  · rw [World.frozen?_setCell]; exact hf
  · obtain ⟨b, off, rfl, hb, hz⟩ := hr h0
    exact ⟨b, off, rfl, hb, fun j hj => by
      obtain ⟨z, hz⟩ := hz j hj
      exact ⟨z, by rw [World.cell?_setCell_other _ _ _ _ (by intro e; injection e; omega)]; exact hz⟩⟩

end Go.Proofs.YtdfkbbcoolgfiaaGreat

namespace Go.Proofs.YtdfkbbcoolgfiaaGreat
open Go.RowKit

section
variable {w w' w2 : World} {g : Nat}
theorem LN_below (h : LN w g) (hb : Below w.heap.size w w') : LN w' g := by
  obtain ⟨A, n, c, hc, hf, hnc, hcm, hg, hr⟩ := h
  refine ⟨A, n, c, (later_cell hb hg).trans hc, (later_frozen hb hg).trans hf, hnc, hcm, Nat.lt_of_lt_of_le hg hb.size, fun h0 => ?_⟩
  obtain ⟨b, off, rfl, hlt, hz⟩ := hr h0
  exact ⟨b, off, rfl, hlt, fun j hj => by
    obtain ⟨z, hz⟩ := hz j hj
    exact ⟨z, (later_cell hb (by omega)).trans hz⟩⟩
theorem LN_alloc (h : LN w g) (o : Obj) : LN (w.alloc o) g := LN_below h (bal (Below.refl _ _) o)
theorem LN_set_other (h : LN w g) {b o : Nat} (hb : g < b) (u : Value) : LN (w.setCell ⟨b, o, none⟩ u) g := by
  obtain ⟨A, n, c, hc, hf, hnc, hcm, hg, hr⟩ := h
  refine ⟨A, n, c, ?_, ?_, hnc, hcm, by simpa [World.setCell] using hg, fun h0 => ?_⟩
  · rw [World.cell?_setCell_other _ _ _ _ (by intro e; injection e; omega)]; exact hc
  · rw [World.frozen?_setCell]; exact hf
  · obtain ⟨b', off, rfl, hlt, hz⟩ := hr h0
    exact ⟨b', off, rfl, hlt, fun j hj => by
      obtain ⟨z, hz⟩ := hz j hj
      exact ⟨z, by rw [World.cell?_setCell_other _ _ _ _ (by intro e; injection e; omega)]; exact hz⟩⟩
theorem gtr (h : w.grownBy w' (some g)) (h' : w'.grownBy w2 (some g)) : w.grownBy w2 (some g) :=
  ⟨h'.os.trans h.os, h'.tape.trans h.tape, h'.output.trans h.output, Nat.le_trans h.size h'.size, fun k hk hne => (h'.block k (Nat.lt_of_lt_of_le hk h.size) hne).trans (h.block k hk hne)⟩
theorem grefl (w : World) (g : Option Nat) : w.grownBy w g := ⟨rfl, rfl, rfl, Nat.le_refl _, fun _ _ _ => rfl⟩
theorem gbel (h : w.grownBy w' (some g)) (h' : Below w'.heap.size w' w2) : w.grownBy w2 (some g) :=
  ⟨h'.os.trans h.os, h'.tape.trans h.tape, h'.output.trans h.output, Nat.le_trans h.size h'.size, fun k hk hne => (h'.block k (Nat.lt_of_lt_of_le hk h.size)).trans (h.block k hk hne)⟩
theorem gal (h : w.grownBy w' (some g)) (o : Obj) : w.grownBy (w'.alloc o) (some g) := gbel h (bal (Below.refl _ _) o)
theorem gset (h : w.grownBy w' (some g)) {b o : Nat} (hb : w.heap.size ≤ b) (u : Value) : w.grownBy (w'.setCell ⟨b, o, none⟩ u) (some g) :=
  ⟨h.os, h.tape, h.output, by simpa [World.setCell] using h.size, fun k hk hne => (heap_setCell_other w' ⟨b, o, none⟩ k u (by simp; omega)).trans (h.block k hk hne)⟩
theorem gcell (h : w.grownBy w' (some g)) : (∀ b o, b < w.heap.size → ¬ b = g → w'.cell? ⟨b, o, none⟩ = w.cell? ⟨b, o, none⟩) ∧ (∀ b o, b < w.heap.size → ¬ b = g → w'.frozen? ⟨b, o, none⟩ = w.frozen? ⟨b, o, none⟩) ∧ w.heap.size ≤ w'.heap.size :=
  ⟨fun b o hb hne => World.cell?_of_block (a := ⟨b, o, none⟩) (h.block b hb (by simpa using hne)), fun b o hb hne => World.frozen?_of_block (a := ⟨b, o, none⟩) (h.block b hb (by simpa using hne)), h.size⟩
theorem keepb {b : Nat} {o : Obj} (k : Hid (w.heap[b]? = some o)) (h : w.grownBy w' (some g)) (hne : ¬ b = g) : Hid (w'.heap[b]? = some o) := by
  have hb : b < w.heap.size := (Array.getElem?_eq_some_iff.1 k.out).1
  exact (h.block b hb (by simpa using hne)).trans k.out
theorem hid_lt {b : Nat} {o : Obj} (k : Hid (w.heap[b]? = some o)) : b < w.heap.size := (Array.getElem?_eq_some_iff.1 k.out).1
theorem blk_cell {b : Nat} {cs : Array Value} {t : TypeId} (i : Nat) (k : Hid (w.heap[b]? = some (.cells cs t (0, 0)))) : w.cell? ⟨b, i, none⟩ = cs[i]? := cell_of_row w b i cs t _ k.out
theorem blk_frozen {b : Nat} {cs : Array Value} {t : TypeId} (i : Nat) (k : Hid (w.heap[b]? = some (.cells cs t (0, 0)))) : w.frozen? ⟨b, i, none⟩ = false := frozen_of_row w b i cs t k.out
end

/-- A slice of numbers that came in. -/
def InA (w : World) (A : Option Addr) (n : Nat) : Prop := 0 < n → ∃ b off : Nat, A = some ⟨b, off, none⟩ ∧ b < w.heap.size ∧ ∀ j, j < n → ∃ z : Int, w.cell? ⟨b, off + j, none⟩ = some (.int .i64 z)
theorem InA.below {w w' : World} {A : Option Addr} {n : Nat} (h : InA w A n) (hb : Below w.heap.size w w') : InA w' A n := fun h0 => by
  obtain ⟨b, off, e, hlt, hz⟩ := h h0
  exact ⟨b, off, e, Nat.lt_of_lt_of_le hlt hb.size, fun j hj => by obtain ⟨z, hz⟩ := hz j hj; exact ⟨z, (later_cell hb hlt).trans hz⟩⟩
theorem LN_new {w : World} {A : Option Addr} {n c g : Nat} {t : TypeId} (h : InA w A n) (hnc : n ≤ c) (hcm : c ≤ 9223372036854775807) (hg : w.heap.size = g) : LN (w.alloc (.cells #[.slice A n c] t)) g := by
  subst hg
  refine ⟨A, n, c, new_cell _ 0, frozen_of_row _ _ _ _ _ (heap_alloc_new w _), hnc, hcm, by simp, fun h0 => ?_⟩
  obtain ⟨b, off, e, hlt, hz⟩ := h h0
  exact ⟨b, off, e, hlt, fun j hj => by obtain ⟨z, hz⟩ := hz j hj; exact ⟨z, (later_cell (bal (Below.refl _ _) _) hlt).trans hz⟩⟩

end Go.Proofs.YtdfkbbcoolgfiaaGreat
