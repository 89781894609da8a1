/- The plain law of PathJoins. -/
import Derived.Test.YtbpeoejjjllieaaBackP
import Derived.Test.YtbpeoejjjllieaaAddP
namespace Go.Proofs.Ytbpeoejjjllieaa

/-- The edge that closes a contour, where one is wanted. -/
def closeC (c : Ct) : List Ed := if endX c.x c.es = c.x ∧ endY c.y c.es = c.y then [] else [⟨endX c.x c.es, endY c.y c.es, false, 0, 0, c.x, c.y⟩]
/-- A contour's edges, closed. -/
def edgesC (c : Ct) : List Ed := c.es ++ closeC c
/-- The edges of a path. -/
def edgesL (l : List Sg) : List Ed := (ctsL l).flatMap edgesC

theorem ends_bare : ∀ (a : List Ct) (c : Ct), ends (a ++ [c]) = true → ∀ d ∈ a, bare d = false
  | [], _, _, d, hd => by simp at hd
  | [x], c, h, d, hd => by
    simp only [List.cons_append, List.nil_append, ends, Bool.and_eq_true, Bool.not_eq_true'] at h
    rw [List.mem_singleton] at hd; subst hd; exact h.1
  | x :: y :: a, c, h, d, hd => by
    simp only [List.cons_append, ends, Bool.and_eq_true, Bool.not_eq_true'] at h
    rcases List.mem_cons.1 hd with rfl | hd
    · exact h.1
    · exact ends_bare (y :: a) c (by simpa using h.2) d hd
theorem ends_app : ∀ (a b : List Ct), (∀ c ∈ a, bare c = false) → ends b = true → ends (a ++ b) = true
  | [], b, _, hb => hb
  | x :: a, b, ha, hb => by
    have ih := ends_app a b (fun c hc => ha c (by simp [hc])) hb
    rw [List.cons_append]
    cases hab : a ++ b with
    | nil => rfl
    | cons y r =>
      rw [hab] at ih
      simp only [ends, Bool.and_eq_true, Bool.not_eq_true']
      exact ⟨ha x (by simp), ih⟩
theorem lastK_pathC (c : Ct) (p : List Sg) : lastK (p ++ pathC c) = 1 ↔ bare c = true := by
  obtain ⟨x, y, es, b⟩ := c
  unfold lastK pathC bare
  cases b
  · simp only [clL, Bool.false_eq_true, if_false, List.append_nil, Bool.not_false, Bool.and_true]
    by_cases hn : es = []
    · subst hn; simp
    · obtain ⟨a, e, rfl⟩ := snoc_of_ne es hn
      have : (p ++ (⟨1, x, y, 0, 0⟩ :: (a ++ [e]).map sgE)).getLast? = some (sgE e) := by
        rw [List.map_append, List.map_singleton, ← List.cons_append, ← List.append_assoc, List.getLast?_append]; simp
      rw [this]
      rcases sgE_kind e with k | k <;> simp [k]
  · have : (p ++ (⟨1, x, y, 0, 0⟩ :: (es.map sgE ++ clL true))).getLast? = some ⟨4, 0, 0, 0, 0⟩ := by
      simp only [clL, if_true]
      rw [← List.cons_append, ← List.append_assoc, List.getLast?_append]; simp
    simp only
    rw [this]; simp
theorem bare_edges {c : Ct} (h : bare c = true) : edgesC c = [] ∧ pathC c = [⟨1, c.x, c.y, 0, 0⟩] := by
  obtain ⟨x, y, es, b⟩ := c
  simp only [bare, Bool.and_eq_true, Bool.not_eq_true', List.isEmpty_iff] at h
  obtain ⟨rfl, rfl⟩ := h
  simp [edgesC, closeC, endX, endY, pathC, clL]
theorem pathOf_app (a b : List Ct) : pathOf (a ++ b) = pathOf a ++ pathOf b := by simp [pathOf]
theorem longL_ok {l m : List Sg} (h : l.length + m.length ≤ 300) : longL l m = (l ++ m, 0) := by unfold longL; rw [if_neg (by omega)]
theorem lastK_ne {l : List Sg} (h : lastK l = 1) : l ≠ [] := by rintro rfl; cases h

theorem joins {l m : List Sg} (hl : mayB l = true) (hm : mayB m = true) (hlen : l.length + m.length ≤ 300) :
    ∃ J, joinL l m = (J, 0) ∧ J.length ≤ 300 ∧ mayB J = true ∧ edgesL J = edgesL l ++ edgesL m ∧ (ctsL J).length + (if lastK l = 1 ∧ m ≠ [] then 1 else 0) = (ctsL l).length + (ctsL m).length := by
  have el := pathOf_ctsL hl
  have em := pathOf_ctsL hm
  have gl := ctsL_good l
  have gm := ctsL_good m
  have hl' := hl
  have hm' := hm
  rw [← el, mayB_pathOf gl] at hl'
  rw [← em, mayB_pathOf gm] at hm'
  have key : ∀ cs : List Ct, (∀ c ∈ cs, GoodC c) → ends cs = true → (pathOf cs).length ≤ 300 → mayB (pathOf cs) = true ∧ ctsL (pathOf cs) = cs := fun cs g e hn => by
    have h := (mayB_pathOf g).2 ⟨hn, e⟩
    exact ⟨h, ctsL_pathOf g h⟩
  have hj : joinL l m = longL (if lastK l = 1 ∧ m ≠ [] then l.dropLast else l) m := by unfold joinL; rw [if_neg (by simp [hl, hm])]
  rw [hj]
  by_cases hc : lastK l = 1 ∧ m ≠ []
  · rw [if_pos hc, if_pos hc]
    have hne : ctsL l ≠ [] := fun e => lastK_ne hc.1 (by rw [← el, e]; rfl)
    obtain ⟨a, c, hac⟩ := snoc_of_ne _ hne
    have hbc : bare c = true := by
      rw [← lastK_pathC c (pathOf a), ← pathOf_snoc, ← hac, el]; exact hc.1
    have hdl : l.dropLast = pathOf a := by
      conv => lhs; rw [← el, hac, pathOf_snoc, (bare_edges hbc).2]
      simp
    rw [hac] at gl hl'
    have ha := ends_bare a c hl'.2
    have hJ : l.dropLast ++ m = pathOf (a ++ ctsL m) := by rw [pathOf_app, em, hdl]
    have hJl : (l.dropLast ++ m).length ≤ 300 := by rw [List.length_append, List.length_dropLast]; omega
    obtain ⟨h1, h2⟩ := key (a ++ ctsL m) (fun d hd => (List.mem_append.1 hd).elim (fun h => gl d (by simp [h])) (gm d)) (ends_app a _ ha hm'.2) (by rw [← hJ]; exact hJl)
    refine ⟨l.dropLast ++ m, longL_ok (by rw [List.length_dropLast]; omega), hJl, by rw [hJ]; exact h1, ?_, ?_⟩
    · unfold edgesL
      rw [hJ, h2, hac, List.flatMap_append, List.flatMap_append]
      simp [(bare_edges hbc).1]
    · rw [hJ, h2, hac, List.length_append, List.length_append]; simp; omega
  · rw [if_neg hc, if_neg hc]
    have hJ : l ++ m = pathOf (ctsL l ++ ctsL m) := by rw [pathOf_app, el, em]
    have hJl : (l ++ m).length ≤ 300 := by rw [List.length_append]; omega
    have hends : ends (ctsL l ++ ctsL m) = true := by
      by_cases hmn : m = []
      · have : ctsL m = [] := by rw [hmn]; rfl
        rw [this, List.append_nil]; exact hl'.2
      · refine ends_app _ _ (fun d hd => ?_) hm'.2
        have hne : ctsL l ≠ [] := fun e => by rw [e] at hd; simp at hd
        obtain ⟨a, c, hac⟩ := snoc_of_ne _ hne
        rw [hac] at hd hl'
        rcases List.mem_append.1 hd with h | h
        · exact ends_bare a c hl'.2 d h
        · rw [List.mem_singleton] at h; subst h
          cases hb : bare d
          · rfl
          · exact absurd ⟨by rw [← el, hac, pathOf_snoc]; exact (lastK_pathC d _).2 hb, hmn⟩ hc
    obtain ⟨h1, h2⟩ := key (ctsL l ++ ctsL m) (fun d hd => (List.mem_append.1 hd).elim (gl d) (gm d)) hends (by rw [← hJ]; exact hJl)
    refine ⟨l ++ m, longL_ok hlen, hJl, by rw [hJ]; exact h1, ?_, ?_⟩
    · unfold edgesL; rw [hJ, h2, List.flatMap_append]
    · rw [hJ, h2, List.length_append]; rfl
theorem join_nil {l : List Sg} (hl : mayB l = true) : joinL l [] = (l, 0) := by
  unfold joinL
  rw [if_neg (by rw [hl]; decide), if_neg (by simp), longL_ok (by have := (mayB_from hl).2; simpa using this)]; simp
theorem nil_join {m : List Sg} (hm : mayB m = true) : joinL [] m = (m, 0) := by
  unfold joinL
  rw [if_neg (by rw [hm]; decide), if_neg (by rintro ⟨h, _⟩; cases h), longL_ok (by have := (mayB_from hm).2; simpa using this)]; simp

end Go.Proofs.Ytbpeoejjjllieaa
