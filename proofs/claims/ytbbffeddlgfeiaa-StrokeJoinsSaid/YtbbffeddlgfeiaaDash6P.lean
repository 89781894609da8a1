/- The plain side of Cut's loops. -/
import Derived.Test.YtbbffeddlgfeiaaDashP
namespace Go.Proofs.Ytbbffeddlgfeiaa

/-- An odd row twice. -/
def evenR (on : List Int) : List Int := if on.length % 2 = 1 then on ++ on else on
theorem evenR_row {on : List Int} (h : Row on) : Row (evenR on) := by unfold evenR; split; exact h.dbl; exact h
theorem evenR_even (on : List Int) : (evenR on).length % 2 = 0 := by
  unfold evenR; split
  · rw [List.length_append]; omega
  · omega
theorem evenR_len (on : List Int) : (evenR on).length ≤ 2 * on.length := by
  unfold evenR; split
  · rw [List.length_append]; omega
  · omega
theorem evenR_dash {on : List Int} (h : Row on) (f : Int) (ps : List Ed) : dashW (evenR on) f ps = dashW on f ps := by
  unfold evenR; split
  · exact dashW_dbl h f ps
  · rfl
theorem evenR_red {on : List Int} (h : Row on) (f : Int) (ps : List Ed) : dashW (evenR on) (redF (evenR on).sum f) ps = dashW on f ps := by
  rw [dashW_red (evenR_row h) (evenR_even on), evenR_dash h]
theorem row_sum {on : List Int} (h : Row on) : on.sum ≤ 32767 * on.length := by
  have : ∀ l : List Int, (∀ v ∈ l, v ≤ 32767) → l.sum ≤ 32767 * l.length := by
    intro l
    induction l with
    | nil => simp
    | cons a l ih => intro h; have := ih (fun v hv => h v (by simp [hv])); have := h a (by simp); rw [List.sum_cons, List.length_cons]; omega
  exact this on h.most
theorem flat_take {α β : Type} (F : α → List β) (l : List α) (k : Nat) (h : k < l.length) : (l.take (k + 1)).flatMap F = (l.take k).flatMap F ++ F l[k] := by
  rw [List.take_succ_eq_append_getElem h, List.flatMap_append]; simp
theorem flat_le {α β : Type} (F : α → List β) (l : List α) (k : Nat) (h : k < l.length) : ((l.take k).flatMap F).length + (F l[k]).length ≤ (l.flatMap F).length := by
  have h1 := flat_take F l k h
  have h2 : l.flatMap F = (l.take (k + 1)).flatMap F ++ (l.drop (k + 1)).flatMap F := by rw [← List.flatMap_append, List.take_append_drop]
  rw [h2, h1, List.length_append, List.length_append]; omega
theorem cutL_over {on : List Int} {f : Int} {l : List Sg} {k j : Nat} {c : Ct} (hne : on ≠ []) (hr : Row on) (hc : (ctsL l)[k]? = some c)
    (h : 300 < (((ctsL l).take k).flatMap (dashC on f) ++ dashTo (evenR on) (redF (evenR on).sum f) (piecesC c) j).length) : cutL on f l = ([], 5) := by
  obtain ⟨hk, hc⟩ := List.getElem?_eq_some_iff.1 hc
  have h1 := dashTo_le (evenR_row hr) (redF (evenR on).sum f) (piecesC c) j
  rw [evenR_red hr] at h1
  have h2 := flat_le (dashC on f) (ctsL l) k hk
  rw [hc] at h2
  have h3 : dashC on f c = dashW on f (piecesC c) := rfl
  rw [h3] at h2
  rw [List.length_append] at h
  unfold cutL
  rw [if_neg hne, if_pos]
  unfold dashL; omega
theorem cutL_all {on : List Int} {f : Int} {l : List Sg} (hne : on ≠ []) (h : (dashL on f l).length ≤ 300) : cutL on f l = (dashL on f l, 0) := by
  unfold cutL; rw [if_neg hne, if_neg (by omega)]
theorem cutL_nil (f : Int) (l : List Sg) : cutL [] f l = (l, 0) := rfl
theorem dashAt_len (on : List Int) (f : Int) (ps : List Ed) (j : Nat) : (dashAt on f ps j).length ≤ ps.length + 2 := by
  unfold dashAt; split
  · exact partW_len _ _ _
  · simp
/-- A path without bows has straight edges alone. -/
theorem cts_straight : ∀ (l : List Sg) (st : List Ct × Int × Int), (∀ s ∈ l, s.kind ≠ 3) → (∀ c ∈ st.1, ∀ e ∈ c.es, e.bent = false) → ∀ c ∈ (l.foldl ctStep st).1, ∀ e ∈ c.es, e.bent = false
  | [], _, _, h => h
  | s :: l, st, hk, h => by
    rw [List.foldl_cons]
    refine cts_straight l _ (fun t ht => hk t (by simp [ht])) ?_
    intro c hc
    unfold ctStep at hc
    split at hc
    · rw [List.mem_append, List.mem_singleton] at hc
      rcases hc with hc | rfl
      · exact h c hc
      · intro e he; simp at he
    · split at hc
      · rcases mem_modLast _ _ _ hc with hc | ⟨d, hd, rfl⟩
        · exact h c hc
        · exact h d hd
      · rcases mem_modLast _ _ _ hc with hc | ⟨d, hd, rfl⟩
        · exact h c hc
        · intro e he
          simp only [List.mem_append, List.mem_singleton] at he
          rcases he with he | rfl
          · exact h d hd e he
          · simpa using hk s (by simp)
theorem ctsL_straight {l : List Sg} (h : ∀ s ∈ l, s.kind ≠ 3) : ∀ c ∈ ctsL l, ∀ e ∈ c.es, e.bent = false := by
  unfold ctsL; split
  · intro c hc; simp at hc
  · exact cts_straight l _ h (fun c hc => by simp at hc)

end Go.Proofs.Ytbbffeddlgfeiaa
