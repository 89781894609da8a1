/- Numbers that are taken one by one: L.Next, L.Coord. -/
import Derived.Test.YtaphmonpdnbiiaaFlat
namespace Go.Proofs.Ytaphmonpdnbiiaa
open Go.RowKit

/-- Block g is an L: its numbers lie in a block ahead of it. -/
def LN (w : World) (g : Nat) : Prop :=
  ∃ (A : Option Addr) (n c : Nat), w.cell? ⟨g, 0, none⟩ = some (.slice A n c) ∧ w.frozen? ⟨g, 0, none⟩ = false ∧ n ≤ c ∧ c ≤ 9223372036854775807 ∧ g < w.heap.size ∧
    (0 < n → ∃ b off : Nat, A = some ⟨b, off, none⟩ ∧ b < g ∧ ∀ j, j < n → ∃ z : Int, w.cell? ⟨b, off + j, none⟩ = some (.int .i64 z))

theorem LN_set {w : World} {g : Nat} {A : Option Addr} {n c : Nat} {u : Value} (hc : w.cell? ⟨g, 0, none⟩ = some u) (hf : w.frozen? ⟨g, 0, none⟩ = false) (hg : g < w.heap.size) (hnc : n ≤ c) (hcm : c ≤ 9223372036854775807)
    (hr : 0 < n → ∃ b off : Nat, A = some ⟨b, off, none⟩ ∧ b < g ∧ ∀ j, j < n → ∃ z : Int, w.cell? ⟨b, off + j, none⟩ = some (.int .i64 z)) :
    LN (w.setCell ⟨g, 0, none⟩ (.slice A n c)) g ∧ w.grownBy (w.setCell ⟨g, 0, none⟩ (.slice A n c)) (some g) := by
  refine ⟨⟨A, n, c, World.cell?_setCell_same _ _ _ hc, ?_, hnc, hcm, by simpa [World.setCell] using hg, fun h0 => ?_⟩, ⟨rfl, rfl, rfl, by simp [World.setCell], fun k _ hk => heap_setCell_other w ⟨g, 0, none⟩ k _ (fun e => hk (by simp [e]))⟩⟩
  · rw [World.frozen?_setCell]; exact hf
  · obtain ⟨b, off, rfl, hb, hz⟩ := hr h0
    exact ⟨b, off, rfl, hb, fun j hj => by
      obtain ⟨z, hz⟩ := hz j hj
      exact ⟨z, by rw [World.cell?_setCell_other _ _ _ _ (by intro e; injection e; omega)]; exact hz⟩⟩

set_option maxHeartbeats 400000 in
theorem Next_any (g : Nat) (n0 : Int) (w : World) (hn : 0 < n0 ∧ n0 ≤ 1000000) (h : LN w g) :
    Calls Try.prog 16 #[.pointer (some ⟨g, 0, none⟩), .int .i64 n0] w
      fun e w' => (∃ v, e = .returned (.int .i64 v) ∧ 0 ≤ v ∧ v < n0) ∧ LN w' g ∧ w.grownBy w' (some g) := by
  obtain ⟨A, n, c, hc, hf, hnc, hcm, hg, hr⟩ := h
  by_cases h0 : n = 0
  · subst h0
    go_enter Try.func16, Try.ntmps16
    go_wp2
    go_ret
    exact ⟨⟨0, rfl, by omega, by omega⟩, ⟨A, 0, c, hc, hf, hnc, hcm, hg, hr⟩, ⟨rfl, rfl, rfl, Nat.le_refl _, fun _ _ _ => rfl⟩⟩
  · obtain ⟨b, off, rfl, hbg, hz⟩ := hr (by omega)
    obtain ⟨z, hz0⟩ := hz 0 (by omega)
    rw [Nat.add_zero] at hz0
    have HZ := Lib.hid hz
    obtain ⟨hn1, hn2⟩ := hn
    clear hz hr
    have hn0 : ((n : Int) == 0) = false := by simp; omega
    go_enter Try.func16, Try.ntmps16
    go_wp2_with (go_at_call 7; refine (Place_any _ _ _ hn1 hn2).mono ?_; rintro e w' ⟨rfl, rfl⟩)
    all_goals
      go_ret
      refine ⟨⟨_, rfl, Int.emod_nonneg _ (by omega), Int.emod_lt_of_pos _ hn1⟩, LN_set hc hf hg (by omega) (by omega) ?_⟩
    · intro hh; omega
    · intro _
      refine ⟨b, off + 1, rfl, hbg, fun j hj => ?_⟩
      rw [Nat.add_assoc]
      exact HZ.out (1 + j) (by omega)

end Go.Proofs.Ytaphmonpdnbiiaa
