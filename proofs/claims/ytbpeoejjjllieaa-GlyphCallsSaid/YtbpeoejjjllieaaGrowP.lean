/- The plain law of PathGrows: each step gives a valid path, or there is no point yet. -/
import Derived.Test.YtbpeoejjjllieaaAddP
import Derived.Test.YtbpeoejjjllieaaMadeP
import Derived.Test.YtbpeoejjjllieaaJoinP
namespace Go.Proofs.Ytbpeoejjjllieaa

/-- What a step gives. -/
def Step (l : List Sg) (E : List Sg × Int) : Prop := (E.2 = 0 ∧ mayB E.1 = true ∧ E.1.length ≤ l.length + 2) ∨ (E.2 = 13 ∧ E.1 = [])

theorem may_snoc {l : List Sg} {s : Sg} (h : mayFrom 0 l = true) (hr : rightB s (lastK l) = true) (hl : l.length < 300) : mayB (l ++ [s]) = true := by
  unfold mayB
  rw [mayFrom_snoc, h, show (l.getLast?.map Sg.kind).getD 0 = lastK l from rfl, hr]
  simp; omega
theorem may_dropLast {l : List Sg} (h : mayB l = true) : mayFrom 0 l.dropLast = true ∧ (lastK l = 1 → lastK l.dropLast ≠ 1) := by
  by_cases hn : l = []
  · subst hn; exact ⟨rfl, fun e => by cases e⟩
  · have he := (List.dropLast_concat_getLast hn).symm
    have h1 := (mayB_from h).1
    obtain ⟨a, s, rfl⟩ := snoc_of_ne l hn
    rw [mayFrom_snoc, Bool.and_eq_true] at h1
    have hd : (a ++ [s]).dropLast = a := by simp
    rw [hd]
    refine ⟨h1.1, fun hk => ?_⟩
    have hs : s.kind = 1 := by rw [← hk]; simp [lastK]
    have := (rightB_iff.1 h1.2).2
    rcases this with ⟨_, h⟩ | ⟨h, _⟩
    · exact h
    · exact absurd hs h
theorem lastMv_co {l : List Sg} (h : mayB l = true) : co (lastMv l).1 = true ∧ co (lastMv l).2 = true := by
  unfold lastMv
  cases hf : l.reverse.find? (fun s => s.kind == 1) with
  | none => exact ⟨by decide, by decide⟩
  | some s =>
    have hm := List.mem_of_find?_eq_some hf
    rw [List.mem_reverse] at hm
    obtain ⟨k, hk, rfl⟩ := List.getElem_of_mem hm
    obtain ⟨c1, c2, _, _⟩ := pieceB_co (may_piece h k hk)
    exact ⟨c1, c2⟩
theorem grow_start {l : List Sg} (h : mayB l = true) (hl : l.length ≤ 298) {x y : Int} (hx : -8191 ≤ x ∧ x ≤ 8191) (hy : -8191 ≤ y ∧ y ≤ 8191) : Step l (startL l x y) := by
  have hr : ∀ a : Int, a ≠ 1 → rightB ⟨1, x, y, 0, 0⟩ a = true := fun a ha => (right_move (co_iff.2 hx) (co_iff.2 hy)).2 ha
  unfold startL
  rw [h, if_neg (by decide), if_neg (by simp [nearB, co_iff]; omega)]
  by_cases h1 : lastK l = 1
  · rw [if_pos h1, longL_ok (by rw [List.length_dropLast]; simp; omega)]
    obtain ⟨a1, a2⟩ := may_dropLast h
    exact .inl ⟨rfl, may_snoc a1 (hr _ (a2 h1)) (by rw [List.length_dropLast]; omega), by simp only [List.length_append, List.length_dropLast, List.length_singleton]; omega⟩
  · rw [if_neg h1, longL_ok (by simp; omega)]
    exact .inl ⟨rfl, may_snoc (mayB_from h).1 (hr _ h1) (by omega), by simp⟩
theorem grow_shut {l : List Sg} (h : mayB l = true) (hl : l.length ≤ 298) : Step l (shutL l) := by
  unfold shutL
  rw [h, if_neg (by decide)]
  by_cases h1 : l = [] ∨ lastK l = 4
  · rw [if_pos h1, longL_ok (by simp; omega)]
    exact .inl ⟨rfl, by simpa using h, by simp⟩
  · rw [if_neg h1, longL_ok (by simp; omega)]
    have h4 : lastK l ≠ 4 := fun e => h1 (.inr e)
    have h0 : lastK l ≠ 0 := by
      have hne : l ≠ [] := fun e => h1 (.inl e)
      have hp := List.length_pos_iff.2 hne
      rw [(last_get (l := l) (by omega)).1]
      have := (may_kind h (l.length - 1) (by omega)).1
      omega
    exact .inl ⟨rfl, may_snoc (mayB_from h).1 (rightB_iff.2 ⟨by decide, .inr ⟨by decide, h0, h4⟩⟩) (by omega), by simp⟩
theorem grow_on {l : List Sg} (h : mayB l = true) (hl : l.length ≤ 298) {s : Sg} (hs : pieceB s = true) (hk : s.kind = 2 ∨ s.kind = 3) : Step l (onL l s) := by
  obtain ⟨c1, c2, c3, c4⟩ := pieceB_co hs
  unfold onL
  rw [h, if_neg (by decide)]
  by_cases hne : l = []
  · rw [if_pos hne]; exact .inr ⟨rfl, rfl⟩
  · have hp := List.length_pos_iff.2 hne
    have h0 : lastK l ≠ 0 := by
      rw [(last_get (l := l) (by omega)).1]
      have := (may_kind h (l.length - 1) (by omega)).1
      omega
    have hk1 : s.kind ≠ 1 := by rcases hk with e | e <;> rw [e] <;> decide
    rw [if_neg hne, if_neg (by simp [nearB, c1, c2, c3, c4])]
    by_cases h4 : lastK l = 4
    · have hpt : ptL l = ((lastMv l).1, (lastMv l).2, true) := by unfold ptL; rw [if_neg (by rw [h]; simp [hne]), if_pos h4]
      rw [if_pos h4, longL_ok (by simp; omega), hpt]
      obtain ⟨m1, m2⟩ := lastMv_co h
      have hm := may_snoc (mayB_from h).1 ((right_move m1 m2).2 (show lastK l ≠ 1 by rw [h4]; decide)) (show l.length < 300 by omega)
      have := may_snoc (s := s) (mayB_from hm).1 (rightB_iff.2 ⟨hs, .inr ⟨hk1, by simp [lastK], by simp [lastK]⟩⟩) (by simp; omega)
      refine .inl ⟨rfl, ?_, by simp⟩
      simpa using this
    · rw [if_neg h4, longL_ok (by simp; omega)]
      exact .inl ⟨rfl, may_snoc (mayB_from h).1 (rightB_iff.2 ⟨hs, .inr ⟨hk1, h0, h4⟩⟩) (by omega), by simp⟩
theorem line_piece {x y : Int} (hx : -8191 ≤ x ∧ x ≤ 8191) (hy : -8191 ≤ y ∧ y ≤ 8191) : pieceB ⟨2, x, y, 0, 0⟩ = true := by simp [pieceB, co_iff]; omega
theorem bow_piece {x y : Int} (hx : -8191 ≤ x ∧ x ≤ 8191) (hy : -8191 ≤ y ∧ y ≤ 8191) : pieceB ⟨3, x, y, y, x⟩ = true := by simp [pieceB, co_iff]; omega

end Go.Proofs.Ytbpeoejjjllieaa
