/- The plain law of PathRounds. -/
import Derived.Test.YtpompbpdhahljaaJoinP
import Derived.Test.YtpompbpdhahljaaBoxQ
namespace Go.Proofs.Ytpompbpdhahljaa

theorem chain_edgesC {c : Ct} (h : GoodC c) : chain c.x c.y (edgesC c) := by
  unfold edgesC
  refine chain_app _ _ _ _ h.1 ?_
  unfold closeC
  split
  · trivial
  · exact ⟨rfl, rfl, trivial⟩
theorem chain_get : ∀ (es : List Ed) (x y : Int) (_ : chain x y es) (j : Nat) (hj : j < es.length), es[j].x0 = endX x (es.take j) ∧ es[j].y0 = endY y (es.take j)
  | e :: es, x, y, h, 0, _ => ⟨h.1, h.2.1⟩
  | e :: es, x, y, h, j + 1, hj => by
    have := chain_get es e.x1 e.y1 h.2.2 j (by simpa using hj)
    simp only [List.getElem_cons_succ, List.take_succ_cons, endX_cons, endY_cons]
    exact this
theorem end_take (es : List Ed) (x y : Int) (j : Nat) (hj : j < es.length) : endX x (es.take (j + 1)) = es[j].x1 ∧ endY y (es.take (j + 1)) = es[j].y1 := by
  rw [List.take_succ_eq_append_getElem hj, endX_snoc, endY_snoc]; exact ⟨rfl, rfl⟩
/-- Are there more edges of a contour? -/
theorem edgesC_more {c : Ct} (j : Nat) (hj : j ≤ (edgesC c).length) :
    (j < (edgesC c).length ↔ (j < c.es.length ∨ endX c.x ((edgesC c).take j) ≠ c.x ∨ endY c.y ((edgesC c).take j) ≠ c.y)) ∧ (j < c.es.length → (edgesC c)[j]? = c.es[j]?) ∧ (j < (edgesC c).length → j ≤ c.es.length) := by
  have hsp : (edgesC c).length = c.es.length + (closeC c).length := by unfold edgesC; rw [List.length_append]
  have hcl : (closeC c).length ≤ 1 := by unfold closeC; split <;> simp
  refine ⟨?_, fun h => by unfold edgesC; rw [List.getElem?_append_left h], fun h => by omega⟩
  by_cases h1 : j < c.es.length
  · simp [h1]; omega
  · by_cases h2 : j = c.es.length
    · subst h2
      have ht : (edgesC c).take c.es.length = c.es := by unfold edgesC; rw [List.take_append_of_le_length (Nat.le_refl _), List.take_length]
      rw [ht, hsp]
      unfold closeC
      by_cases he : endX c.x c.es = c.x ∧ endY c.y c.es = c.y
      · rw [if_pos he]; simp [he.1, he.2]
      · rw [if_neg he]
        simp only [List.length_singleton, Nat.lt_add_one, Nat.lt_irrefl, false_or, true_iff]
        by_cases hx : endX c.x c.es = c.x
        · exact .inr fun hy => he ⟨hx, hy⟩
        · exact .inl hx
    · have h3 : j = (edgesC c).length := by omega
      have h4 : (closeC c).length = 1 := by omega
      have hne : ¬ (endX c.x c.es = c.x ∧ endY c.y c.es = c.y) := fun he => by unfold closeC at h4; rw [if_pos he] at h4; simp at h4
      have ht : (edgesC c).take j = edgesC c := List.take_of_length_le (by omega)
      have he : endX c.x (edgesC c) = c.x ∧ endY c.y (edgesC c) = c.y := by
        unfold edgesC closeC; rw [if_neg hne, endX_snoc, endY_snoc]; exact ⟨rfl, rfl⟩
      rw [ht, he.1, he.2]
      simp; omega
theorem edgesC_pts {c : Ct} : ∀ e ∈ edgesC c, (e.x1, e.y1) ∈ ptC c ∧ (e.bent = true → (e.cx, e.cy) ∈ ptC c) := by
  intro e he
  unfold edgesC at he
  unfold ptC
  rcases List.mem_append.1 he with h | h
  · exact ⟨by rw [List.mem_cons, List.mem_flatMap]; exact .inr ⟨e, h, mem_ptE.2 (.inr rfl)⟩, fun hb => by rw [List.mem_cons, List.mem_flatMap]; exact .inr ⟨e, h, mem_ptE.2 (.inl ⟨hb, rfl⟩)⟩⟩
  · unfold closeC at h
    split at h
    · simp at h
    · rw [List.mem_singleton] at h; subst h
      exact ⟨by simp, fun hb => by cases hb⟩
/-- All edges of a valid path lie within its box. -/
theorem edges_in {l : List Sg} (h : mayB l = true) (h0 : l ≠ []) : ∀ c ∈ ctsL l, ∀ e ∈ edgesC c, ((boxFrom l).x0 ≤ e.x1 ∧ e.x1 ≤ (boxFrom l).x1 ∧ (boxFrom l).y0 ≤ e.y1 ∧ e.y1 ≤ (boxFrom l).y1) ∧
    (e.bent = true → (boxFrom l).x0 ≤ e.cx ∧ e.cx ≤ (boxFrom l).x1 ∧ (boxFrom l).y0 ≤ e.cy ∧ e.cy ≤ (boxFrom l).y1) := by
  intro c hc e he
  obtain ⟨h1, h2⟩ := edgesC_pts e he
  have hb := (box_is h h0).all
  have e1 : pts l = (ctsL l).flatMap ptC := by rw [← pts_pathOf, pathOf_ctsL h]
  have hm : ∀ p ∈ ptC c, p ∈ pts l := fun p hp => by rw [e1, List.mem_flatMap]; exact ⟨c, hc, hp⟩
  exact ⟨hb _ (hm _ h1), fun hbt => hb _ (hm _ (h2 hbt))⟩
theorem flatMap_split {α β : Type} (f : α → List β) (cs : List α) (i : Nat) (h : i < cs.length) : ∃ R, cs.flatMap f = (cs.take i).flatMap f ++ (f cs[i] ++ R) := by
  refine ⟨(cs.drop (i + 1)).flatMap f, ?_⟩
  conv => lhs; rw [← List.take_append_drop i cs, List.drop_eq_getElem_cons h, List.flatMap_append, List.flatMap_cons]
theorem flatMap_at {α β : Type} (f : α → List β) (cs : List α) (i : Nat) (h : i < cs.length) (j : Nat) (hj : j < (f cs[i]).length) :
    ∃ hk : ((cs.take i).flatMap f).length + j < (cs.flatMap f).length, (cs.flatMap f)[((cs.take i).flatMap f).length + j] = (f cs[i])[j] := by
  obtain ⟨R, hR⟩ := flatMap_split f cs i h
  refine ⟨by rw [hR]; simp only [List.length_append]; omega, ?_⟩
  simp only [hR]
  rw [List.getElem_append_right (by omega)]
  simp only [Nat.add_sub_cancel_left]
  rw [List.getElem_append_left hj]

end Go.Proofs.Ytpompbpdhahljaa
