/- The plain side of contours. -/
import Derived.Test.YtbpeoejjjllieaaRefP
namespace Go.Proofs.Ytbpeoejjjllieaa

/-- A contour: from x, y on. -/
structure Ct where
  x : Int
  y : Int
  es : List Ed
  shut : Bool
deriving DecidableEq, Inhabited

/-- The last one turned. -/
def modLast {α : Type} (f : α → α) : List α → List α
  | [] => []
  | [c] => [f c]
  | c :: d :: l => c :: modLast f (d :: l)
/-- What a piece does: the contours so far, the place. -/
def ctStep (st : List Ct × Int × Int) (s : Sg) : List Ct × Int × Int :=
  if s.kind = 1 then (st.1 ++ [⟨s.x, s.y, [], false⟩], s.x, s.y)
  else if s.kind = 4 then (modLast (fun c => { c with shut := true }) st.1, st.2.1, st.2.2)
  else (modLast (fun c => { c with es := c.es ++ [⟨st.2.1, st.2.2, s.kind == 3, s.cx, s.cy, s.x, s.y⟩] }) st.1, s.x, s.y)
def ctTo (l : List Sg) : List Ct × Int × Int := l.foldl ctStep ([], 0, 0)
/-- The contours of a path. -/
def ctsL (l : List Sg) : List Ct := if mayB l = false then [] else (ctTo l).1

theorem modLast_snoc {α : Type} (f : α → α) (l : List α) (c : α) : modLast f (l ++ [c]) = l ++ [f c] := by
  induction l with
  | nil => rfl
  | cons a l ih =>
    cases l with
    | nil => rfl
    | cons b l => rw [List.cons_append, List.cons_append]; simp only [modLast]; rw [← List.cons_append, ih]; rfl
theorem modLast_ne {α : Type} (f : α → α) (l : List α) (h : l ≠ []) : modLast f l ≠ [] := by
  cases l with
  | nil => exact absurd rfl h
  | cons a l => cases l <;> simp [modLast]
theorem modLast_length {α : Type} (f : α → α) (l : List α) : (modLast f l).length = l.length := by
  induction l with
  | nil => rfl
  | cons a l ih =>
    cases l with
    | nil => rfl
    | cons b l => simp only [modLast, List.length_cons] at *; omega
theorem snoc_of_ne {α : Type} (l : List α) (h : l ≠ []) : ∃ a c, l = a ++ [c] := ⟨l.dropLast, l.getLast h, (List.dropLast_concat_getLast h).symm⟩

theorem ctTo_take (l : List Sg) (k : Nat) (h : k < l.length) : ctTo (l.take (k + 1)) = ctStep (ctTo (l.take k)) l[k] := by
  unfold ctTo
  rw [List.take_succ_eq_append_getElem h, List.foldl_append]; rfl
theorem ctStep_ne (st : List Ct × Int × Int) (s : Sg) (h : st.1 ≠ [] ∨ s.kind = 1) : (ctStep st s).1 ≠ [] := by
  unfold ctStep
  split
  · simp
  · rename_i h1
    have h2 : st.1 ≠ [] := h.resolve_right h1
    split
    · exact modLast_ne _ _ h2
    · exact modLast_ne _ _ h2

/-- At each place of a valid path: the piece may be behind the one ahead. -/
theorem may_at : ∀ (l : List Sg) (a : Int) (k : Nat) (h : k < l.length), mayFrom a l = true → rightB l[k] (if h0 : 0 < k then (l[k - 1]'(by omega)).kind else a) = true
  | s :: l, a, 0, _, hm => by
    simp only [mayFrom, Bool.and_eq_true] at hm
    simpa using hm.1
  | s :: l, a, k + 1, h, hm => by
    simp only [mayFrom, Bool.and_eq_true] at hm
    have := may_at l s.kind k (by simpa using h) hm.2
    cases k with
    | zero => simpa using this
    | succ k => simpa using this
theorem mayB_from {l : List Sg} (h : mayB l = true) : mayFrom 0 l = true ∧ l.length ≤ 300 := by
  simp [mayB] at h; exact ⟨h.2, h.1⟩
/-- What is known of a piece that is no Move: there is one ahead, and it is no Close. -/
theorem may_inner {l : List Sg} (h : mayB l = true) (k : Nat) (hk : k < l.length) (h1 : l[k].kind ≠ 1) : ∃ h0 : 0 < k, (l[k - 1]'(by omega)).kind ≠ 4 := by
  have := may_at l 0 k hk (mayB_from h).1
  rw [rightB_iff] at this
  rcases this.2 with ⟨h2, _⟩ | ⟨_, h2, h3⟩
  · exact absurd h2 h1
  · by_cases h0 : 0 < k
    · rw [dif_pos h0] at h3; exact ⟨h0, h3⟩
    · rw [dif_neg h0] at h2; exact absurd rfl h2
theorem may_kind {l : List Sg} (h : mayB l = true) (k : Nat) (hk : k < l.length) : 1 ≤ l[k].kind ∧ l[k].kind ≤ 4 := by
  have := may_at l 0 k hk (mayB_from h).1
  rw [rightB_iff] at this
  exact pieceB_kind this.1
theorem may_piece {l : List Sg} (h : mayB l = true) (k : Nat) (hk : k < l.length) : pieceB l[k] = true := by
  have := may_at l 0 k hk (mayB_from h).1
  rw [rightB_iff] at this
  exact this.1
theorem ct_ne {l : List Sg} (h : mayB l = true) : ∀ k, 0 < k → k ≤ l.length → (ctTo (l.take k)).1 ≠ []
  | 0, h0, _ => absurd h0 (by omega)
  | k + 1, _, hk => by
    rw [ctTo_take l k (by omega)]
    apply ctStep_ne
    by_cases h1 : l[k].kind = 1
    · exact .inr h1
    · obtain ⟨h0, _⟩ := may_inner h k (by omega) h1
      exact .inl (ct_ne h k h0 (by omega))
theorem ct_len (l : List Sg) : (ctTo l).1.length ≤ l.length := by
  have : ∀ (l : List Sg) (st : List Ct × Int × Int), (l.foldl ctStep st).1.length ≤ st.1.length + l.length := by
    intro l
    induction l with
    | nil => intro st; simp
    | cons s l ih =>
      intro st
      rw [List.foldl_cons, List.length_cons]
      have h1 := ih (ctStep st s)
      have h2 : (ctStep st s).1.length ≤ st.1.length + 1 := by
        unfold ctStep
        split
        · simp
        · split
          · simp only [modLast_length]; omega
          · simp only [modLast_length]; omega
      omega
  simpa [ctTo] using this l ([], 0, 0)

theorem mem_modLast {α : Type} (f : α → α) (l : List α) (x : α) (h : x ∈ modLast f l) : x ∈ l ∨ ∃ c ∈ l, x = f c := by
  by_cases hl : l = []
  · subst hl; simp [modLast] at h
  · obtain ⟨a, c, rfl⟩ := snoc_of_ne l hl
    rw [modLast_snoc, List.mem_append, List.mem_singleton] at h
    rcases h with h | rfl
    · exact .inl (by simp [h])
    · exact .inr ⟨c, by simp, rfl⟩
theorem ct_es (l : List Sg) : ∀ c ∈ (ctTo l).1, c.es.length ≤ l.length := by
  have : ∀ (l : List Sg) (st : List Ct × Int × Int) (b : Nat), (∀ c ∈ st.1, c.es.length ≤ b) → ∀ c ∈ (l.foldl ctStep st).1, c.es.length ≤ b + l.length := by
    intro l
    induction l with
    | nil => intro st b h c hc; simpa using h c hc
    | cons s l ih =>
      intro st b h c hc
      rw [List.foldl_cons] at hc
      have := ih (ctStep st s) (b + 1) (fun d hd => by
        unfold ctStep at hd
        split at hd
        · rw [List.mem_append, List.mem_singleton] at hd
          rcases hd with hd | rfl
          · have := h d hd; omega
          · simp
        · split at hd
          · rcases mem_modLast _ _ _ hd with hd | ⟨e, he, rfl⟩
            · have := h d hd; omega
            · have := h e he; simp only; omega
          · rcases mem_modLast _ _ _ hd with hd | ⟨e, he, rfl⟩
            · have := h d hd; omega
            · have := h e he; simp only [List.length_append, List.length_singleton]; omega) c hc
      simp only [List.length_cons]; omega
  intro c hc
  have := this l ([], 0, 0) 0 (fun c hc => by simp at hc) c hc
  omega

end Go.Proofs.Ytbpeoejjjllieaa
