/- Wider strokes, other ends and corners; joined paths: plainly. -/
import Derived.Test.YtbbffeddlgfeiaaStrokeQ
import Derived.Test.YtbbffeddlgfeiaaBackDP
namespace Go.Proofs.Ytbbffeddlgfeiaa

theorem disc_mono {a b w v x y : Int} (h0 : 0 ≤ w) (h1 : w ≤ v) (h : DiscP a b w x y) : DiscP a b v x y := by
  have := sq_le h0 h1
  unfold DiscP at *; omega
theorem square_mono {a b w v x y : Int} (h1 : w ≤ v) (h : SquareP a b w x y) : SquareP a b v x y := by
  unfold SquareP at *; omega
theorem wide_mono {w v L : Int} (h0 : 0 ≤ w) (h1 : w ≤ v) (hL : 0 ≤ L) : w * w * L ≤ v * v * L := Int.mul_le_mul_of_nonneg_right (sq_le h0 h1) hL
/-- A style that covers more. -/
structure More (s t : Sy) : Prop where
  w0 : 0 ≤ s.wide
  w : s.wide ≤ t.wide
  j : s.join = 1 → t.join = 1
  c : s.cap = t.cap ∨ s.cap = 0
theorem dot_mono {c : Ct} {s t : Sy} {x y : Int} (m : More s t) (h : DotP c s x y) : DotP c t x y := by
  unfold DotP at *
  rcases h with ⟨a, b⟩ | ⟨a, b⟩
  · exact .inl ⟨by rcases m.c with h | h <;> omega, disc_mono m.w0 m.w b⟩
  · exact .inr ⟨by rcases m.c with h | h <;> omega, square_mono m.w b⟩
theorem covAt_mono {shut : Bool} {s t : Sy} {ps : List Ed} {i : Nat} {e : Ed} {x y : Int} (m : More s t) (h : CovAt shut s ps i e x y) : CovAt shut t ps i e x y := by
  have hw := wide_mono m.w0 m.w (sqE_nonneg e)
  unfold CovAt OnP AheadP BehindP at *
  rcases h with ⟨a, b⟩ | ⟨a, b, c, d, e⟩ | ⟨a, b, c, d, e⟩ | ⟨a, b⟩ | ⟨⟨a, b, c⟩, d⟩
  · exact .inl ⟨by omega, b⟩
  · exact .inr (.inl ⟨a, b, by rcases m.c with h | h <;> omega, by omega, e.1, by omega⟩)
  · exact .inr (.inr (.inl ⟨a, b, by rcases m.c with h | h <;> omega, by omega, e.1, by omega⟩))
  · refine .inr (.inr (.inr (.inl ⟨?_, disc_mono m.w0 m.w b⟩)))
    rcases a with ⟨a1, a2, a3⟩ | ⟨a1, a2⟩
    · exact .inl ⟨a1, a2, by rcases m.c with h | h <;> omega⟩
    · exact .inr ⟨a1, m.j a2⟩
  · exact .inr (.inr (.inr (.inr ⟨⟨a, b, by rcases m.c with h | h <;> omega⟩, disc_mono m.w0 m.w d⟩)))
theorem covC_mono {c : Ct} {s t : Sy} {x y : Int} (m : More s t) (h : CovC c s x y) : CovC c t x y := by
  rcases h with ⟨a, b, d⟩ | ⟨i, hi, h⟩
  · exact .inl ⟨a, b, dot_mono m d⟩
  · exact .inr ⟨i, hi, covAt_mono m h⟩
theorem covL_mono {l : List Sg} {s t : Sy} {x y : Int} (m : More s t) (h : covL l s x y = true) : covL l t x y = true := by
  rw [covL_iff] at h ⊢
  obtain ⟨c, hc, h⟩ := h
  exact ⟨c, hc, covC_mono m h⟩
theorem bare_cov {c : Ct} (h : bare c = true) (s : Sy) (x y : Int) : ¬ CovC c s x y := by
  simp only [bare, Bool.and_eq_true, List.isEmpty_iff, Bool.not_eq_true'] at h
  have hp : piecesC c = [] := by unfold piecesC; rw [h.1, h.2]; rfl
  rintro (⟨_, h2, _⟩ | ⟨i, hi, _⟩)
  · rw [h.1, h.2] at h2; simp at h2
  · rw [hp] at hi; simp at hi
theorem covL_join {l m J : List Sg} (h : ctsL J = ctsL l ++ ctsL m ∨ ∃ a c, ctsL l = a ++ [c] ∧ bare c = true ∧ ctsL J = a ++ ctsL m) (s : Sy) (x y : Int) : covL J s x y = (covL l s x y || covL m s x y) := by
  rw [Bool.eq_iff_iff, Bool.or_eq_true, covL_iff, covL_iff, covL_iff]
  rcases h with h | ⟨a, c, h1, h2, h3⟩
  · rw [h]
    constructor
    · rintro ⟨d, hd, hc⟩
      rcases List.mem_append.1 hd with hd | hd
      · exact .inl ⟨d, hd, hc⟩
      · exact .inr ⟨d, hd, hc⟩
    · rintro (⟨d, hd, hc⟩ | ⟨d, hd, hc⟩)
      · exact ⟨d, List.mem_append_left _ hd, hc⟩
      · exact ⟨d, List.mem_append_right _ hd, hc⟩
  · rw [h1, h3]
    constructor
    · rintro ⟨d, hd, hc⟩
      rcases List.mem_append.1 hd with hd | hd
      · exact .inl ⟨d, List.mem_append_left _ hd, hc⟩
      · exact .inr ⟨d, hd, hc⟩
    · rintro (⟨d, hd, hc⟩ | ⟨d, hd, hc⟩)
      · rcases List.mem_append.1 hd with hd | hd
        · exact ⟨d, List.mem_append_left _ hd, hc⟩
        · rw [List.mem_singleton] at hd; subst hd; exact absurd hc (bare_cov h2 s x y)
      · exact ⟨d, List.mem_append_right _ hd, hc⟩
end Go.Proofs.Ytbbffeddlgfeiaa
