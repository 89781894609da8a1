/- root.Floor, and the numbers of layer 35: near, Long, over, May. -/
import Derived.Test.YtbpgehaflbacmaaFlat
import Derived.Test.YtbpgehaflbacmaaMay2
import Derived.Test.YtbpgehaflbacmaaAllP
namespace Go.Proofs.Ytbpgehaflbacmaa
open Go.RowKit

theorem flr_or (n : Int) (h0 : 0 ≤ n) (hn : n < 18446744073709551616) (k : Nat) (hk : k < 32) :
    bits BinOp.or IntKind.u64 (flrTo n k) (IntKind.u64.wrap (2 ^ (31 - k))) = flrTo n k + 2 ^ (31 - k) ∧
    IntKind.u64.wrap ((flrTo n k + 2 ^ (31 - k)) * (flrTo n k + 2 ^ (31 - k))) = (flrTo n k + 2 ^ (31 - k)) * (flrTo n k + 2 ^ (31 - k)) := by
  obtain ⟨m, h1, h2, h3, h4, h5⟩ := flrTo_inv n h0 hn k (by omega)
  have e1 : 32 - k = (31 - k) + 1 := by omega
  have ep : (2 : Int) ^ (31 - k) * 2 ^ (k + 1) = 4294967296 := by rw [← Int.pow_add, show 31 - k + (k + 1) = 32 by omega]; rfl
  have e3 : (2 : Int) ^ (32 - k) = 2 * 2 ^ (31 - k) := by rw [e1, Int.pow_succ]; omega
  have e4 : (2 : Int) ^ (k + 1) = 2 * 2 ^ k := by rw [Int.pow_succ]; omega
  have hp := two_pos (31 - k)
  have hq := two_pos k
  have hle : (2 : Int) ^ (31 - k) * 2 ≤ 2 ^ (31 - k) * 2 ^ (k + 1) := Int.mul_le_mul_of_nonneg_left (by omega) (by omega)
  have hm : (m + 1) * (2 * 2 ^ (31 - k)) ≤ 2 ^ k * (2 * 2 ^ (31 - k)) := Int.mul_le_mul_of_nonneg_right h3 (by omega)
  have hr := flrTo_nonneg n k
  have hb : flrTo n k + 2 * 2 ^ (31 - k) ≤ 4294967296 := by
    rw [h1, e3]
    have a : (m + 1) * (2 * 2 ^ (31 - k)) = m * (2 * 2 ^ (31 - k)) + 2 * 2 ^ (31 - k) := by grind
    have b : (2 : Int) ^ k * (2 * 2 ^ (31 - k)) = 2 ^ (31 - k) * 2 ^ (k + 1) := by rw [e4]; grind
    omega
  have hw : IntKind.u64.wrap (2 ^ (31 - k)) = 2 ^ (31 - k) := by rw [IntKind.wrap_u64]; exact Int.emod_eq_of_lt (by omega) (by omega)
  constructor
  · rw [hw, u64_or _ _ hr (by omega) (by omega) (by omega)]
    have x1 : ((2 : Int) ^ (31 - k)).toNat = 2 ^ (31 - k) := by
      have : ((2 ^ (31 - k) : Nat) : Int) = (2 : Int) ^ (31 - k) := by simp
      omega
    have x2 : (flrTo n k).toNat = m.toNat * 2 ^ (32 - k) := by
      rw [h1]
      have : ((m.toNat * 2 ^ (32 - k) : Nat) : Int) = m * (2 : Int) ^ (32 - k) := by rw [Int.natCast_mul, Int.toNat_of_nonneg h2]; simp
      omega
    rw [x1, nat_join (32 - k) _ _ (by rw [x2, Nat.mul_mod_left]) (Nat.pow_lt_pow_right (by omega) (by omega)), Int.natCast_add, Int.toNat_of_nonneg hr]
    simp
  · rw [IntKind.wrap_u64]
    have := sq_bd (a := flrTo n k + 2 ^ (31 - k)) (A := 4294967295) (by omega)
    exact Int.emod_eq_of_lt (by omega) (by omega)

theorem over_facts2 (v m : Int) (hv : -600000000 ≤ v ∧ v ≤ 600000000) (hm : 1 ≤ m ∧ m ≤ 30000) :
    (-600000000 ≤ v.tdiv m ∧ v.tdiv m ≤ 600000000) ∧ (-700000000 ≤ v.tdiv m * m ∧ v.tdiv m * m ≤ 700000000) ∧ (-700000000 ≤ (v.tdiv m - 1) * m ∧ (v.tdiv m - 1) * m ≤ 700000000) := by
  obtain ⟨h1, h2, _, _⟩ := tmod_emod v m (by omega)
  have ha := Int.mul_tdiv_add_tmod v m
  have hb : v.tdiv m * m = v - v.tmod m := by rw [Int.mul_comm]; omega
  have hc : (v.tdiv m - 1) * m = v.tdiv m * m - m := by rw [Int.sub_mul, Int.one_mul]
  have hd : -600000000 ≤ v.tdiv m ∧ v.tdiv m ≤ 600000000 := by
    constructor
    · apply Decidable.byContradiction; intro h
      have : m * v.tdiv m ≤ m * (-600000001) := Int.mul_le_mul_of_nonneg_left (by omega) (by omega)
      omega
    · apply Decidable.byContradiction; intro h
      have : m * 600000001 ≤ m * v.tdiv m := Int.mul_le_mul_of_nonneg_left (by omega) (by omega)
      omega
  omega

theorem conv_u64 (n : Int) (h0 : 0 ≤ n) (hn : n < 18446744073709551616) : IntKind.u64.wrap n = n := by rw [IntKind.wrap_u64]; exact Int.emod_eq_of_lt h0 hn

theorem ints_len (zs : List Int) : (ints zs).length = zs.length := by simp [ints]
theorem sum_take (on : List Int) (k : Nat) (h : k < on.length) : (on.take (k + 1)).sum = (on.take k).sum + on[k] := by
  rw [List.take_succ_eq_append_getElem h, List.sum_append]; simp
theorem sum_bd {on : List Int} (h0 : ∀ v ∈ on, 0 ≤ v) (h1 : ∀ v ∈ on, v ≤ 32767) : ∀ k, k ≤ on.length → 0 ≤ (on.take k).sum ∧ (on.take k).sum ≤ 32767 * k
  | 0, _ => by simp
  | k + 1, hk => by
    have := sum_bd h0 h1 k (by omega)
    have hm := List.getElem_mem (l := on) (n := k) hk
    have := h0 _ hm
    have := h1 _ hm
    rw [sum_take on k hk]; omega
/-- The k-th number of a slice of numbers. -/
theorem Sl.intAt {w : World} {A : Option Addr} {n : Nat} {zs : List Int} (h : Sl w 1 A n (ints zs)) (k : Nat) (hk : k < n) (hl : k < zs.length) :
    ∃ b off : Nat, A = some ⟨b, off, none⟩ ∧ b < w.heap.size ∧ w.cell? ⟨b, off + k, none⟩ = some (.int .i64 zs[k]) := by
  obtain ⟨b, off, e, hb, hc⟩ := h.2 (by omega)
  exact ⟨b, off, e, hb, hc k _ (by simp [ints, List.getElem?_eq_getElem hl])⟩
theorem Sl.intlen {w : World} {A : Option Addr} {n : Nat} {zs : List Int} (h : Sl w 1 A n (ints zs)) : zs.length = n := by have := h.1; rw [ints_len] at this; omega

end Go.Proofs.Ytbpgehaflbacmaa
