/- What a contour's stroke covers, told without lists of shapes; wider strokes, other ends. -/
import Derived.Test.YtbbffeddlgfeiaaStrokeP
namespace Go.Proofs.Ytbbffeddlgfeiaa

/-- The stretch of a piece; ahead of it, behind it (square ends). -/
def OnP (e : Ed) (w x y : Int) : Prop := 4 * (armK e x y * armK e x y) ≤ w * w * sqE e ∧ 0 ≤ armU e x y ∧ armU e x y ≤ sqE e
def AheadP (e : Ed) (w x y : Int) : Prop := 4 * (armK e x y * armK e x y) ≤ w * w * sqE e ∧ armU e x y ≤ 0 ∧ 4 * (armU e x y * armU e x y) ≤ w * w * sqE e
def BehindP (e : Ed) (w x y : Int) : Prop := 4 * (armK e x y * armK e x y) ≤ w * w * sqE e ∧ sqE e ≤ armU e x y ∧ 4 * ((armU e x y - sqE e) * (armU e x y - sqE e)) ≤ w * w * sqE e
theorem sqE_nonneg (e : Ed) : 0 ≤ sqE e := by
  unfold sqE
  have h : ∀ a : Int, 0 ≤ a * a := fun a => by
    rcases Int.le_total 0 a with h | h
    · exact Int.mul_nonneg h h
    · exact Int.mul_nonneg_of_nonpos_of_nonpos h h
  have := h (e.x1 - e.x0)
  have := h (e.y1 - e.y0)
  omega
theorem sq_nonneg (a : Int) : 0 ≤ a * a := by
  rcases Int.le_total 0 a with h | h
  · exact Int.mul_nonneg h h
  · exact Int.mul_nonneg_of_nonpos_of_nonpos h h
theorem pieceP_iff (e : Ed) (w : Int) (f l : Bool) (x y : Int) : PieceP e w f l x y ↔ OnP e w x y ∨ (f = true ∧ AheadP e w x y) ∨ (l = true ∧ BehindP e w x y) := by
  have hS := sqE_nonneg e
  have h0 := sq_nonneg (armK e x y)
  unfold PieceP OnP AheadP BehindP
  cases f <;> cases l <;> simp only [Bool.false_eq_true, false_and, or_false, true_and, false_or]
  · constructor
    · rintro ⟨a, b, c⟩
      rcases c with c | c
      · exact .inl ⟨a, b, c⟩
      · rcases Int.le_total (armU e x y) (sqE e) with d | d
        · exact .inl ⟨a, b, d⟩
        · exact .inr ⟨a, d, c⟩
    · rintro (⟨a, b, c⟩ | ⟨a, b, c⟩)
      · exact ⟨a, b, .inl c⟩
      · exact ⟨a, by omega, .inr c⟩
  · constructor
    · rintro ⟨a, b, c⟩
      rcases b with b | b
      · exact .inl ⟨a, b, c⟩
      · rcases Int.le_total 0 (armU e x y) with d | d
        · exact .inl ⟨a, d, c⟩
        · exact .inr ⟨a, d, b⟩
    · rintro (⟨a, b, c⟩ | ⟨a, b, c⟩)
      · exact ⟨a, .inl b, c⟩
      · exact ⟨a, .inr c, by omega⟩
  · constructor
    · rintro ⟨a, b, c⟩
      rcases Int.le_total 0 (armU e x y) with d | d
      · rcases Int.le_total (armU e x y) (sqE e) with d2 | d2
        · exact .inl ⟨a, d, d2⟩
        · rcases c with c | c
          · exact .inl ⟨a, d, c⟩
          · exact .inr (.inr ⟨a, d2, c⟩)
      · rcases b with b | b
        · exact .inl ⟨a, b, by omega⟩
        · exact .inr (.inl ⟨a, d, b⟩)
    · rintro (⟨a, b, c⟩ | ⟨a, b, c⟩ | ⟨a, b, c⟩)
      · exact ⟨a, .inl b, .inl c⟩
      · exact ⟨a, .inr c, .inl (by omega)⟩
      · exact ⟨a, .inl (by omega), .inr c⟩

/-- What the k-th piece and what stands at it cover. -/
def CovAt (shut : Bool) (s : Sy) (ps : List Ed) (i : Nat) (e : Ed) (x y : Int) : Prop :=
  OnP e s.wide x y ∨ (i = 0 ∧ shut = false ∧ s.cap = 2 ∧ AheadP e s.wide x y) ∨ (i + 1 = ps.length ∧ shut = false ∧ s.cap = 2 ∧ BehindP e s.wide x y) ∨
    (((i = 0 ∧ shut = false ∧ s.cap = 1) ∨ (¬ (i = 0 ∧ shut = false) ∧ s.join = 1)) ∧ DiscP e.x0 e.y0 s.wide x y) ∨ ((i + 1 = ps.length ∧ shut = false ∧ s.cap = 1) ∧ DiscP e.x1 e.y1 s.wide x y)
theorem covAt_iff (shut : Bool) (s : Sy) (ps : List Ed) (i : Nat) (e : Ed) (x y : Int) : (∃ h ∈ shAt shut s ps i e, covS h x y = true) ↔ CovAt shut s ps i e x y := by
  unfold shAt CovAt
  constructor
  · rintro ⟨h, hm, hc⟩
    rw [List.mem_cons, List.mem_append] at hm
    rcases hm with rfl | hm | hm
    · simp only [covS, decide_eq_true_eq] at hc
      rw [pieceP_iff] at hc
      simp only [Bool.and_eq_true, decide_eq_true_eq, Bool.not_eq_true'] at hc
      rcases hc with hc | ⟨⟨⟨a, b⟩, c⟩, d⟩ | ⟨⟨⟨a, b⟩, c⟩, d⟩
      · exact .inl hc
      · exact .inr (.inl ⟨a, b, c, d⟩)
      · exact .inr (.inr (.inl ⟨a, b, c, d⟩))
    · split at hm
      · next hh =>
        rw [List.mem_singleton] at hm; subst hm
        simp only [covS, decide_eq_true_eq] at hc
        refine .inr (.inr (.inr (.inl ⟨?_, hc⟩)))
        simp only [Bool.or_eq_true, Bool.and_eq_true, decide_eq_true_eq, Bool.not_eq_true', Bool.and_eq_false_iff, decide_eq_false_iff_not, Bool.not_eq_false'] at hh
        rcases hh with ⟨⟨a, b⟩, c⟩ | ⟨a, b⟩
        · exact .inl ⟨a, b, c⟩
        · refine .inr ⟨?_, b⟩
          rintro ⟨c, d⟩
          rcases a with a | a
          · exact a c
          · rw [d] at a; cases a
      · simp at hm
    · split at hm
      · next hh =>
        rw [List.mem_singleton] at hm; subst hm
        simp only [covS, decide_eq_true_eq] at hc
        simp only [Bool.and_eq_true, decide_eq_true_eq, Bool.not_eq_true'] at hh
        exact .inr (.inr (.inr (.inr ⟨⟨hh.1.1, hh.1.2, hh.2⟩, hc⟩)))
      · simp at hm
  · rintro (h | ⟨a, b, c, d⟩ | ⟨a, b, c, d⟩ | ⟨h, d⟩ | ⟨⟨a, b, c⟩, d⟩)
    · exact ⟨_, List.mem_cons_self .., by simp only [covS, decide_eq_true_eq]; rw [pieceP_iff]; exact .inl h⟩
    · exact ⟨_, List.mem_cons_self .., by simp only [covS, decide_eq_true_eq]; rw [pieceP_iff]; exact .inr (.inl ⟨by simp [a, b, c], d⟩)⟩
    · exact ⟨_, List.mem_cons_self .., by simp only [covS, decide_eq_true_eq]; rw [pieceP_iff]; exact .inr (.inr ⟨by simp [a, b, c], d⟩)⟩
    · refine ⟨.disc e.x0 e.y0 s.wide, List.mem_cons_of_mem _ (List.mem_append_left _ ?_), by simp only [covS, decide_eq_true_eq]; exact d⟩
      rw [if_pos]
      · simp
      · rcases h with ⟨a, b, c⟩ | ⟨a, b⟩
        · simp [a, b, c]
        · by_cases h1 : i = 0
          · have h2 : shut = true := by cases shut; exact absurd ⟨h1, rfl⟩ a; rfl
            simp [h2, b]
          · simp [h1, b]
    · refine ⟨.disc e.x1 e.y1 s.wide, List.mem_cons_of_mem _ (List.mem_append_right _ ?_), by simp only [covS, decide_eq_true_eq]; exact d⟩
      rw [if_pos (by simp [a, b, c])]
      simp
/-- What a dot covers. -/
def DotP (c : Ct) (s : Sy) (x y : Int) : Prop := (s.cap = 1 ∧ DiscP c.x c.y s.wide x y) ∨ (s.cap = 2 ∧ SquareP c.x c.y s.wide x y)
theorem dot_iff (c : Ct) (s : Sy) (x y : Int) : (∃ h ∈ dotS c s, covS h x y = true) ↔ DotP c s x y := by
  unfold dotS DotP
  split
  · next h1 => simp [covS, h1]
  · next h1 =>
    split
    · next h2 => simp [covS, h2]
    · next h2 => simp [h1, h2]
/-- What a contour covers. -/
def CovC (c : Ct) (s : Sy) (x y : Int) : Prop :=
  (piecesC c = [] ∧ (0 < c.es.length ∨ c.shut = true) ∧ DotP c s x y) ∨ ∃ (i : Nat) (h : i < (piecesC c).length), CovAt c.shut s (piecesC c) i (piecesC c)[i] x y
theorem covC_iff (c : Ct) (s : Sy) (x y : Int) : (∃ h ∈ shpC s c, covS h x y = true) ↔ CovC c s x y := by
  unfold shpC CovC
  by_cases h0 : (piecesC c).length = 0
  · have hn : piecesC c = [] := List.eq_nil_of_length_eq_zero h0
    rw [if_pos h0]
    have hno : ¬ ∃ (i : Nat) (h : i < (piecesC c).length), CovAt c.shut s (piecesC c) i (piecesC c)[i] x y := by rintro ⟨i, h, _⟩; omega
    constructor
    · rintro ⟨h, hm, hc⟩
      split at hm
      · next hh => exact .inl ⟨hn, hh, (dot_iff c s x y).1 ⟨h, hm, hc⟩⟩
      · simp at hm
    · rintro (⟨_, hh, hd⟩ | hh)
      · rw [if_pos hh]; exact (dot_iff c s x y).2 hd
      · exact absurd hh hno
  · rw [if_neg h0]
    constructor
    · rintro ⟨h, hm, hc⟩
      rw [mem_shTo _ _ _ _ _ (Nat.le_refl _)] at hm
      obtain ⟨i, hi, _, hm⟩ := hm
      exact .inr ⟨i, hi, (covAt_iff ..).1 ⟨h, hm, hc⟩⟩
    · rintro (⟨hn, _⟩ | ⟨i, hi, hc⟩)
      · rw [hn] at h0; exact absurd rfl h0
      · obtain ⟨h, hm, hc⟩ := (covAt_iff ..).2 hc
        exact ⟨h, (mem_shTo _ _ _ _ _ (Nat.le_refl _)).2 ⟨i, hi, hi, hm⟩, hc⟩
theorem covL_iff (l : List Sg) (s : Sy) (x y : Int) : covL l s x y = true ↔ ∃ c ∈ ctsL l, CovC c s x y := by
  unfold covL shL
  rw [List.any_eq_true]
  constructor
  · rintro ⟨h, hm, hc⟩
    rw [List.mem_flatMap] at hm
    obtain ⟨c, hcm, hm⟩ := hm
    exact ⟨c, hcm, (covC_iff c s x y).1 ⟨h, hm, hc⟩⟩
  · rintro ⟨c, hcm, hc⟩
    obtain ⟨h, hm, hc⟩ := (covC_iff c s x y).2 hc
    exact ⟨h, List.mem_flatMap.2 ⟨c, hcm, hm⟩, hc⟩
theorem plainB_iff {l : List Sg} : plainB l = true ↔ mayB l = true ∧ ∀ s ∈ l, s.kind ≠ 3 := by
  simp only [plainB, Bool.and_eq_true, List.all_eq_true, Bool.not_eq_true', beq_eq_false_iff_ne, ne_eq]
  exact ⟨fun h => ⟨h.2, h.1⟩, fun h => ⟨h.2, h.1⟩⟩
/-- On the page, for a style that may be, a stroke is what its shapes cover. -/
theorem inL_is {l : List Sg} {s : Sy} {x y : Int} (hm : mayB l = true) (hb : ∀ t ∈ l, t.kind ≠ 3) (hs : mayS s = true) (hx : co x = true) (hy : co y = true) : inL l s x y = covL l s x y := by
  unfold inL; rw [plainB_iff.2 ⟨hm, hb⟩, hs, hx, hy]; rfl
end Go.Proofs.Ytbbffeddlgfeiaa
