/- The plain law of PathLimits: a Move and lines. -/
import Derived.Test.YtpompbpdhahljaaJoinP
namespace Go.Proofs.Ytpompbpdhahljaa

theorem placeI_range (v n : Int) (h : 0 < n) : 0 ≤ placeI v n ∧ placeI v n < n := ⟨Int.emod_nonneg _ (by omega), Int.emod_lt_of_pos _ h⟩
/-- A Move and lines. -/
def Lines1 (l : List Sg) : Prop := ∃ ls : List Sg, l = ⟨1, 0, 0, 0, 0⟩ :: ls ∧ ∀ s ∈ ls, s.kind = 2 ∧ pieceB s = true
theorem mayFrom_two : ∀ (ls : List Sg) (a : Int), (∀ s ∈ ls, s.kind = 2 ∧ pieceB s = true) → a ≠ 0 → a ≠ 4 → mayFrom a ls = true
  | [], _, _, _, _ => rfl
  | s :: ls, a, h, h0, h4 => by
    obtain ⟨h1, h2⟩ := h s (by simp)
    rw [mayFrom, Bool.and_eq_true]
    refine ⟨rightB_iff.2 ⟨h2, .inr ⟨by rw [h1]; decide, h0, h4⟩⟩, ?_⟩
    rw [h1]; exact mayFrom_two ls 2 (fun t ht => h t (by simp [ht])) (by decide) (by decide)
theorem Lines1.may {l : List Sg} (h : Lines1 l) (hl : l.length ≤ 300) : mayB l = true := by
  obtain ⟨ls, rfl, hs⟩ := h
  unfold mayB
  rw [Bool.and_eq_true, decide_eq_true_eq]
  refine ⟨hl, ?_⟩
  rw [mayFrom, mayFrom_two ls 1 hs (by decide) (by decide)]; decide
theorem Lines1.snoc {l : List Sg} (h : Lines1 l) {x y : Int} (hx : -8191 ≤ x ∧ x ≤ 8191) (hy : -8191 ≤ y ∧ y ≤ 8191) : Lines1 (l ++ [⟨2, x, y, 0, 0⟩]) := by
  obtain ⟨ls, rfl, hs⟩ := h
  refine ⟨ls ++ [⟨2, x, y, 0, 0⟩], rfl, fun s hm => ?_⟩
  rw [List.mem_append, List.mem_singleton] at hm
  rcases hm with hm | rfl
  · exact hs s hm
  · refine ⟨rfl, ?_⟩
    simp [pieceB, co_iff]; omega
theorem Lines1.one : Lines1 [⟨1, 0, 0, 0, 0⟩] := ⟨[], rfl, fun s hs => by simp at hs⟩
theorem Lines1.last {l : List Sg} (h : Lines1 l) : lastK l = 1 ∨ lastK l = 2 := by
  obtain ⟨ls, rfl, hs⟩ := h
  by_cases hn : ls = []
  · subst hn; exact .inl rfl
  · obtain ⟨a, s, rfl⟩ := snoc_of_ne ls hn
    right
    have : lastK (⟨1, 0, 0, 0, 0⟩ :: (a ++ [s])) = s.kind := by
      unfold lastK; rw [← List.cons_append, List.getLast?_append]; rfl
    rw [this]; exact (hs s (by simp)).1
theorem Lines1.last2 {l : List Sg} (h : Lines1 l) (hl : 2 ≤ l.length) : lastK l = 2 := by
  obtain ⟨ls, rfl, hs⟩ := h
  have hn : ls ≠ [] := by rintro rfl; simp at hl
  obtain ⟨a, s, rfl⟩ := snoc_of_ne ls hn
  have : lastK (⟨1, 0, 0, 0, 0⟩ :: (a ++ [s])) = s.kind := by
    unfold lastK; rw [← List.cons_append, List.getLast?_append]; rfl
  rw [this]; exact (hs s (by simp)).1
theorem Lines1.ne {l : List Sg} (h : Lines1 l) : l ≠ [] := by obtain ⟨ls, rfl, _⟩ := h; simp
theorem longL_over {l m : List Sg} (h : 300 < l.length + m.length) : longL l m = ([], 5) := by unfold longL; rw [if_pos h]
theorem Lines1.on {l : List Sg} (h : Lines1 l) (hl : l.length ≤ 300) {x y : Int} (hx : -8191 ≤ x ∧ x ≤ 8191) (hy : -8191 ≤ y ∧ y ≤ 8191) : onL l ⟨2, x, y, 0, 0⟩ = longL l [⟨2, x, y, 0, 0⟩] := by
  have h4 : lastK l ≠ 4 := by rcases h.last with e | e <;> rw [e] <;> decide
  unfold onL
  rw [h.may hl, if_neg (by decide), if_neg h.ne, if_neg (by simp [nearB, co_iff]; omega), if_neg h4]
theorem Lines1.far {l : List Sg} (h : Lines1 l) (hl : l.length ≤ 300) : onL l ⟨2, 8192, 0, 0, 0⟩ = ([], 2) := by
  unfold onL
  rw [h.may hl, if_neg (by decide), if_neg h.ne, if_pos (by decide)]
theorem Lines1.shut {l : List Sg} (h : Lines1 l) (hl : l.length = 300) : shutL l = ([], 5) := by
  have h4 : lastK l ≠ 4 := by rcases h.last with e | e <;> rw [e] <;> decide
  unfold shutL
  rw [h.may (by omega), if_neg (by decide), if_neg (by simp [h.ne, h4]), longL_over (by simp; omega)]
theorem Lines1.start {l : List Sg} (h : Lines1 l) (hl : l.length = 300) {x : Int} (hx : -8191 ≤ x ∧ x ≤ 8191) : startL l x 0 = ([], 5) := by
  unfold startL
  rw [h.may (by omega), if_neg (by decide), if_neg (by simp [nearB, co_iff]; omega), if_neg (by rw [h.last2 (by omega)]; decide), longL_over (by simp; omega)]
theorem Lines1.join {l m : List Sg} (h : Lines1 l) (hl : l.length = 300) (hm : mayB m = true) (h0 : 0 < m.length) : joinL l m = ([], 5) := by
  unfold joinL
  rw [if_neg (by rw [h.may (by omega), hm]; decide), if_neg (by rw [h.last2 (by omega)]; rintro ⟨e, _⟩; cases e), longL_over (by omega)]
theorem may_long {l : List Sg} (h : 300 < l.length) : mayB l = false := by unfold mayB; simp; omega

end Go.Proofs.Ytpompbpdhahljaa
