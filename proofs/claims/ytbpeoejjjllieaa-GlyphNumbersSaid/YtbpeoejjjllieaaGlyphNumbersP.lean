/- The plain law of GlyphNumbers: a number in any of its forms. -/
import Derived.Test.YtbpeoejjjllieaaGlyphP
namespace Go.Proofs.Ytbpeoejjjllieaa

theorem num_move {ns : List Nat} {x : Int} (hx : -1131 ≤ x ∧ x ≤ 1131) (hne : ∃ b r, ns = b :: r ∧ 32 ≤ b) (hl : ns.length ≤ 10) (hn : ∀ r, numG (ns ++ r) = some (x, ns.length)) :
    RunG (0 :: (ns ++ [139, 2, 10])) = (([⟨1, x, 0, 0, 0⟩], 0), 0) := by
  obtain ⟨b, r, rfl, hb⟩ := hne
  have hS : splitG (0 :: (b :: r ++ [139, 2, 10])) = (([], b :: r ++ [139, 2, 10]), 0) := by
    unfold splitG
    rw [if_neg (by simp only [List.length_cons, List.length_append, List.length_nil] at hl ⊢; omega)]
    rfl
  unfold RunG
  rw [hS]
  simp only [if_true]
  have h1 : runD [] 4 true (b :: r ++ [139, 2, 10]) startG = runS 0 (fun k M => runD [] 3 false (([] : List (List Nat))[k]?.getD []) M) true (b :: r ++ [139, 2, 10]) startG := rfl
  rw [h1, List.cons_append, runS_num _ hb, ← List.cons_append, hn]
  simp only
  have h2 : ((b :: r) ++ [139, 2, 10]).drop (b :: r).length = [139, 2, 10] := List.drop_left
  rw [h2]
  unfold pushG
  rw [if_neg (by simp [startG])]
  rw [runS_num _ (by omega : 32 ≤ 139)]
  simp only [numG]
  rw [if_pos (by omega)]
  simp only [List.drop_succ_cons, List.drop_zero]
  unfold pushG
  rw [if_neg (by simp [startG])]
  rw [runS_op _ (by omega : ¬ 32 ≤ 2)]
  have hco : co x = true := by simp [co]; omega
  simp only [startG, List.nil_append, List.cons_append]
  rw [if_neg (by omega), if_neg (by omega), if_neg (by omega)]
  have h3 : drawG 2 ⟨[x, ((139 : Nat) : Int) - 139], [], 0, 0, 0, 0 + 1, false, false⟩ = .ok ⟨[], [⟨1, x, 0, 0, 0⟩], x, 0, 0, 1, true, false⟩ := by
    have h0 : co 0 = true := by decide
    simp only [drawG, takesG, opG, moveG, startL, takeG, drawnG]
    simp [nearB, hco, h0, longL, mayB, mayFrom, lastK, ptL, rightB, lastX, lastY]
  rw [h3]
  simp only [thenG]
  rw [if_neg (by simp), runS_op _ (by omega : ¬ 32 ≤ 10)]
  rfl
theorem long_num {x : Int} (hx : -1131 ≤ x ∧ x ≤ 1131) (r : List Nat) {h l : Nat} (hh : (h : Int) = (x / 256) % 256) (hl : (l : Int) = x % 256) : numG ([255, h, l] ++ r) = some (x, 3) := by
  simp only [numG, List.cons_append, List.nil_append]
  rw [if_neg (by omega), if_pos trivial]
  unfold i16
  rw [hh, hl]
  congr 2
  split <;> omega
theorem short_num {x : Int} (hx : -107 ≤ x ∧ x ≤ 107) (r : List Nat) {b : Nat} (hb : (b : Int) = 139 + x) : numG ([b] ++ r) = some (x, 1) := by
  simp only [numG, List.cons_append, List.nil_append]
  rw [if_pos (by omega)]
  congr 2; omega
theorem plus_num {x : Int} (hx : 108 ≤ x ∧ x ≤ 1131) (r : List Nat) {b c : Nat} (hb : (b : Int) = 247 + (x - 108) / 256) (hc : (c : Int) = (x - 108) % 256) : numG ([b, c] ++ r) = some (x, 2) := by
  simp only [numG, List.cons_append, List.nil_append]
  rw [if_neg (by omega), if_neg (by omega), if_pos (by omega)]
  congr 2; omega
theorem minus_num {x : Int} (hx : -1131 ≤ x ∧ x ≤ -108) (r : List Nat) {b c : Nat} (hb : (b : Int) = 251 + (-x - 108) / 256) (hc : (c : Int) = (-x - 108) % 256) : numG ([b, c] ++ r) = some (x, 2) := by
  simp only [numG, List.cons_append, List.nil_append]
  rw [if_neg (by omega), if_neg (by omega), if_neg (by omega)]
  congr 2; omega
end Go.Proofs.Ytbpeoejjjllieaa
