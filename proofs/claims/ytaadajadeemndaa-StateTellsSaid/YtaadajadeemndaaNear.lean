/- path.near and bow.near: every number is a coordinate. -/
import Derived.Test.YtaadajadeemndaaProg
import Derived.Test.YtaadajadeemndaaAllP
namespace Go.Proofs.Ytaadajadeemndaa
open Go.RowKit

theorem nearB_snoc (l : List Int) (a : Int) : nearB (l ++ [a]) = (nearB l && co a) := by simp [nearB]
theorem nearB_take (zs : List Int) (k : Nat) (h : k < zs.length) : nearB (zs.take (k + 1)) = (nearB (zs.take k) && co zs[k]) := by
  rw [List.take_succ_eq_append_getElem h, nearB_snoc]
theorem nearB_out (zs : List Int) (k : Nat) (h : k < zs.length) (hc : co zs[k] = false) : nearB zs = false := by
  rw [nearB, List.all_eq_false]
  exact ⟨zs[k], List.getElem_mem h, by simp [hc]⟩

set_option maxHeartbeats 400000 in
theorem path_near_any (A : Option Addr) (n c : Nat) (zs : List Int) (w : World) (hm : n ≤ 1000000) (h : Sl w 1 A n (ints zs)) :
    Calls Try.prog 86 #[.slice A n c] w fun e w' => e = .returned (.bool (nearB zs)) ∧ w = w' := by
  have hl : zs.length = n := by have := h.1; simpa [ints] using this
  go_enter Try.func86, Try.ntmps86
  go_wp2
  go_loop [7] (fun i => ∃ k : Nat, k ≤ n ∧ i = .int .i64 k ∧ Hid (nearB (zs.take k) = true)) (fun i => n - (intOf i).toNat)
  case atStart => exact ⟨0, Nat.zero_le _, rfl, by simp [nearB, Hid]⟩
  case round =>
    obtain ⟨k, hk, rfl, hn⟩ := hrel
    by_cases hlt : k < n
    · obtain ⟨b, off, rfl, hb, hc⟩ := h.2 (by omega)
      obtain ⟨z, hz⟩ : ∃ z, z = zs[k]'(by omega) := ⟨_, rfl⟩
      have hx : w.cell? ⟨b, off + k, none⟩ = some (.int .i64 z) := hc k _ (by simp [ints, hz, List.getElem?_eq_getElem (show k < zs.length by omega)])
      have HZ := Lib.hid hz
      clear hc hz
      go_wp2
      all_goals first
        | (go_ret; refine ⟨ret_bool ?_, rfl⟩; rw [nearB_out zs k (by omega) (by rw [← HZ.out]; exact co_no (by omega))])
        | (go_round
           case rel => exact ⟨k + 1, by omega, by go_num, by show nearB _ = true; rw [nearB_take zs k (by omega), hn.out, ← HZ.out, co_iff.2 (by omega)]; rfl⟩
           case measure => simp [intOf]; omega)
    · go_wp2
      go_ret
      refine ⟨ret_bool ?_, rfl⟩
      have := hn.out
      rw [List.take_of_length_le (by omega)] at this
      exact this.symm
end Go.Proofs.Ytaadajadeemndaa
