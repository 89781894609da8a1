/- The reference's numbers of layer 35: Floor, Near, Long, MayDash, Straight. -/
import Derived.Test.YtbpgehaflbacmaaDash1
import Derived.Test.YtbpgehaflbacmaaRefMay
namespace Go.Proofs.Ytbpgehaflbacmaa
open Go.RowKit

theorem tmod_sign2 (v n : Int) (_hn : 0 < n) : (0 ≤ v → 0 ≤ v.tmod n) ∧ (v < 0 → v.tmod n ≤ 0) := by
  refine ⟨fun h => Int.tmod_nonneg _ h, fun h => ?_⟩
  have := Int.tmod_nonneg n (a := -v) (by omega)
  rw [Int.neg_tmod] at this
  omega

theorem near_facts2 (v m : Int) (hv : -600000000 ≤ v ∧ v ≤ 600000000) (hm : 1 ≤ m ∧ m ≤ 30000) :
    (-600000001 ≤ v / m ∧ v / m ≤ 600000000) ∧ (-700000000 ≤ v / m * m ∧ v / m * m ≤ 700000000) ∧ v - v / m * m = v % m ∧ 0 ≤ v % m ∧ v % m < m := by
  have hb := Int.mul_ediv_add_emod v m
  have h2 := Int.emod_nonneg v (show m ≠ 0 by omega)
  have h3 := Int.emod_lt_of_pos v (show 0 < m by omega)
  have hc : v / m * m = v - v % m := by rw [Int.mul_comm]; omega
  have hd : -600000001 ≤ v / m ∧ v / m ≤ 600000000 := by
    constructor
    · apply Decidable.byContradiction; intro h
      have : m * (v / m) ≤ m * (-600000002) := Int.mul_le_mul_of_nonneg_left (by omega) (by omega)
      omega
    · apply Decidable.byContradiction; intro h
      have : m * 600000001 ≤ m * (v / m) := Int.mul_le_mul_of_nonneg_left (by omega) (by omega)
      omega
  omega

/-- The greatest so far. -/
def maxTo (on : List Int) (k : Nat) : Int := (on.take k).foldl max 0
theorem maxTo_succ (on : List Int) (k : Nat) (h : k < on.length) : maxTo on (k + 1) = max (maxTo on k) on[k] := by
  unfold maxTo; rw [List.take_succ_eq_append_getElem h, List.foldl_append]; rfl
theorem maxTo_bd {on : List Int} (h0 : ∀ v ∈ on, v ≤ 32767) : ∀ k, k ≤ on.length → 0 ≤ maxTo on k ∧ maxTo on k ≤ 32767
  | 0, _ => by simp [maxTo]
  | k + 1, hk => by
    have := maxTo_bd h0 k (by omega)
    have := h0 _ (List.getElem_mem (show k < on.length by omega))
    rw [maxTo_succ on k (by omega)]; omega
theorem maxTo_ge {on : List Int} : ∀ k, k ≤ on.length → ∀ j (_ : j < k) (h : j < on.length), on[j] ≤ maxTo on k
  | 0, _, j, hj, _ => by omega
  | k + 1, hk, j, hj, h => by
    rw [maxTo_succ on k (by omega)]
    by_cases he : j = k
    · subst he; omega
    · have := maxTo_ge k (by omega) j (by omega) h; omega
theorem maxTo_pos {on : List Int} (h : Row on) : 0 < maxTo on on.length := by
  apply Decidable.byContradiction; intro hc
  have hz : ∀ v ∈ on, v = 0 := fun v hv => by
    obtain ⟨j, hj, rfl⟩ := List.getElem_of_mem hv
    have h1 := maxTo_ge on.length (Nat.le_refl _) j hj hj
    have h2 := h.nonneg _ hv
    omega
  have hs : ∀ l : List Int, (∀ v ∈ l, v = 0) → l.sum = 0 := by
    intro l
    induction l with
    | nil => simp
    | cons a l ih => intro hh; rw [List.sum_cons, hh a (by simp), ih (fun v hv => hh v (by simp [hv]))]; rfl
  have := h.some
  rw [hs on hz] at this; omega

set_option maxHeartbeats 400000 in
theorem ref_Straight_any (A : Option Addr) (n c : Nat) (l : List Sg) (w : World) (hm : n ≤ 1000000) (h : Sl w 5 A n (sgs l)) (hok : mayB l = true) (hb : ∀ s ∈ l, s.kind ≠ 3) :
    Calls Try.prog 21 #[.slice A n c] w fun e w' => e = .returned (.bool true) ∧ Below w.heap.size w w' := by
  have hl := h.sglen
  have HB := Lib.hid hb
  have HOK := Lib.hid hok
  clear hb hok
  go_enter Try.func21, Try.ntmps21
  go_wp2_with (go_at_call 31; refine (ref_May_any _ _ _ l _ hm h).mono ?_; rintro e w2 ⟨rfl, hb2⟩; rw [HOK.out])
  have h2 := h.below hb2
  go_loop [3] (fun i => ∃ k : Nat, k ≤ n ∧ i = .int .i64 k) (fun i => n - (intOf i).toNat)
  case atStart => exact ⟨0, by omega, rfl⟩
  case round =>
    obtain ⟨k, hk, rfl⟩ := hrel
    by_cases hlt : k < n
    · have hkl : k < l.length := by omega
      obtain ⟨b, off, rfl, hbl, c0, c1, c2, c3, c4⟩ := h2.sg k hlt hkl
      have hk3 := HB.out _ (List.getElem_mem hkl)
      obtain ⟨sk, hsk⟩ : ∃ s, s = l[k] := ⟨_, rfl⟩
      rw [← hsk] at c0 hk3
      have hk3' : (sk.kind == 3) = false := by simpa using hk3
      clear hsk hk3 c1 c2 c3 c4
      go_wp2
      go_round
      case rel => exact ⟨k + 1, by omega, by go_num⟩
      case measure => simp [intOf]; omega
    · obtain rfl : k = n := by omega
      go_wp2
      go_ret
      exact ⟨rfl, hb2⟩

end Go.Proofs.Ytbpgehaflbacmaa
