/- The stroke of one straight piece: plainly. Level and upright pieces. -/
import Derived.Test.YtbbffeddlgfeiaaStrokeBoxP
namespace Go.Proofs.Ytbbffeddlgfeiaa

/-- A path of one piece. -/
def oneL (a b c d : Int) : List Sg := [⟨1, a, b, 0, 0⟩, ⟨2, c, d, 0, 0⟩]
def oneE (a b c d : Int) : Ed := ⟨a, b, false, 0, 0, c, d⟩
def oneC (a b c d : Int) : Ct := ⟨a, b, [oneE a b c d], false⟩
theorem oneL_may {a b c d : Int} (ha : co a = true) (hb : co b = true) (hc : co c = true) (hd : co d = true) : mayB (oneL a b c d) = true := by
  have h0 : co 0 = true := by decide
  unfold oneL
  simp only [mayB, mayFrom, rightB, nearB, List.all_cons, List.all_nil, ha, hb, hc, hd, h0]
  rfl
theorem oneL_nobow (a b c d : Int) : ∀ s ∈ oneL a b c d, s.kind ≠ 3 := by simp [oneL]
theorem oneL_cts {a b c d : Int} (ha : co a = true) (hb : co b = true) (hc : co c = true) (hd : co d = true) : ctsL (oneL a b c d) = [oneC a b c d] := by
  unfold ctsL; rw [oneL_may ha hb hc hd]; rfl
theorem oneC_pieces (a b c d : Int) : piecesC (oneC a b c d) = if a = c ∧ b = d then [] else [oneE a b c d] := by
  unfold piecesC oneC
  by_cases h : a = c ∧ b = d
  · rw [if_pos h]; simp [oneE, moved, h.1, h.2]
  · rw [if_neg h]
    have : moved (oneE a b c d) = true := by
      simp only [moved, oneE, Bool.or_eq_true, Bool.not_eq_true', beq_eq_false_iff_ne, ne_eq]
      by_cases h1 : a = c
      · exact .inr fun h2 => h ⟨h1, h2⟩
      · exact .inl h1
    simp [this]
/-- What one piece's stroke covers. -/
def OneP (a b c d : Int) (s : Sy) (x y : Int) : Prop :=
  OnP (oneE a b c d) s.wide x y ∨ (s.cap = 2 ∧ AheadP (oneE a b c d) s.wide x y) ∨ (s.cap = 2 ∧ BehindP (oneE a b c d) s.wide x y) ∨ (s.cap = 1 ∧ DiscP a b s.wide x y) ∨ (s.cap = 1 ∧ DiscP c d s.wide x y)
theorem one_cov {a b c d : Int} (ha : co a = true) (hb : co b = true) (hc : co c = true) (hd : co d = true) (hne : ¬ (a = c ∧ b = d)) (s : Sy) (x y : Int) : covL (oneL a b c d) s x y = true ↔ OneP a b c d s x y := by
  rw [covL_iff, oneL_cts ha hb hc hd]
  have hp : piecesC (oneC a b c d) = [oneE a b c d] := by rw [oneC_pieces, if_neg hne]
  have hC : CovC (oneC a b c d) s x y ↔ CovAt false s [oneE a b c d] 0 (oneE a b c d) x y := by
    unfold CovC
    rw [hp]
    constructor
    · rintro (⟨h, _⟩ | ⟨i, hi, h⟩)
      · cases h
      · obtain rfl : i = 0 := by simpa using hi
        exact h
    · intro h; exact .inr ⟨0, by simp, h⟩
  have : (∃ c' ∈ [oneC a b c d], CovC c' s x y) ↔ CovC (oneC a b c d) s x y := by simp
  rw [this, hC]
  unfold CovAt OneP
  simp [oneE]
theorem one_dot {a b : Int} (ha : co a = true) (hb : co b = true) (s : Sy) (x y : Int) : covL (oneL a b a b) s x y = true ↔ (s.cap = 1 ∧ DiscP a b s.wide x y) ∨ (s.cap = 2 ∧ SquareP a b s.wide x y) := by
  rw [covL_iff, oneL_cts ha hb ha hb]
  have hp : piecesC (oneC a b a b) = [] := by rw [oneC_pieces, if_pos ⟨rfl, rfl⟩]
  have hC : CovC (oneC a b a b) s x y ↔ DotP (oneC a b a b) s x y := by
    unfold CovC
    rw [hp]
    constructor
    · rintro (⟨_, _, h⟩ | ⟨i, hi, h⟩)
      · exact h
      · simp at hi
    · intro h; exact .inl ⟨rfl, .inl (by simp [oneC]), h⟩
  have : (∃ c' ∈ [oneC a b a b], CovC c' s x y) ↔ CovC (oneC a b a b) s x y := by simp
  rw [this, hC]
  rfl

theorem sq_iff {a b m : Int} (hb : 0 ≤ b) (hm : 1 ≤ m) : a * a * m ≤ b * b * m ↔ -b ≤ a ∧ a ≤ b := by
  constructor
  · intro h; exact abs_le_of_sq hb (Int.le_of_mul_le_mul_right h (by omega))
  · intro h
    exact Int.mul_le_mul_of_nonneg_right (sq_bd h).2 (by omega)
/-- Along a level piece. -/
theorem along_iff {a D : Int} (hD : D ≠ 0) : (0 ≤ a * D ↔ (0 < D ∧ 0 ≤ a) ∨ (D < 0 ∧ a ≤ 0)) ∧ (a * D ≤ 0 ↔ (0 < D ∧ a ≤ 0) ∨ (D < 0 ∧ 0 ≤ a)) := by
  rcases Int.lt_or_gt_of_ne hD with h | h
  · constructor <;> constructor
    · intro h1; refine .inr ⟨h, ?_⟩
      apply Decidable.byContradiction; intro hc
      have := Int.mul_neg_of_pos_of_neg (show 0 < a by omega) h; omega
    · rintro (⟨h1, _⟩ | ⟨_, h1⟩)
      · omega
      · exact Int.mul_nonneg_of_nonpos_of_nonpos h1 (by omega)
    · intro h1; refine .inr ⟨h, ?_⟩
      apply Decidable.byContradiction; intro hc
      have := Int.mul_pos_of_neg_of_neg (show a < 0 by omega) h; omega
    · rintro (⟨h1, _⟩ | ⟨_, h1⟩)
      · omega
      · exact Int.mul_nonpos_of_nonneg_of_nonpos h1 (by omega)
  · constructor <;> constructor
    · intro h1; refine .inl ⟨h, ?_⟩
      apply Decidable.byContradiction; intro hc
      have := Int.mul_neg_of_neg_of_pos (show a < 0 by omega) h; omega
    · rintro (⟨_, h1⟩ | ⟨h1, _⟩)
      · exact Int.mul_nonneg h1 (by omega)
      · omega
    · intro h1; refine .inl ⟨h, ?_⟩
      apply Decidable.byContradiction; intro hc
      have := Int.mul_pos (show 0 < a by omega) h; omega
    · rintro (⟨_, h1⟩ | ⟨h1, _⟩)
      · exact Int.mul_nonpos_of_nonpos_of_nonneg h1 (by omega)
      · omega
theorem level_iff {w o a D : Int} (hw : 0 ≤ w) (hD : D ≠ 0) :
    (4 * (o * D * (o * D)) ≤ w * w * (D * D) ↔ -w ≤ 2 * o ∧ 2 * o ≤ w) ∧ (0 ≤ a * D ↔ (0 < D ∧ 0 ≤ a) ∨ (D < 0 ∧ a ≤ 0)) ∧ (a * D ≤ 0 ↔ (0 < D ∧ a ≤ 0) ∨ (D < 0 ∧ 0 ≤ a)) ∧
    (a * D ≤ D * D ↔ (0 < D ∧ a ≤ D) ∨ (D < 0 ∧ D ≤ a)) ∧ (D * D ≤ a * D ↔ (0 < D ∧ D ≤ a) ∨ (D < 0 ∧ a ≤ D)) ∧
    (4 * (a * D * (a * D)) ≤ w * w * (D * D) ↔ -w ≤ 2 * a ∧ 2 * a ≤ w) ∧ (4 * ((a * D - D * D) * (a * D - D * D)) ≤ w * w * (D * D) ↔ -w ≤ 2 * (a - D) ∧ 2 * (a - D) ≤ w) := by
  have h1 : 1 ≤ D * D := sq_pos hD
  have e0 : ∀ z : Int, 4 * (z * D * (z * D)) = 2 * z * (2 * z) * (D * D) := fun z => by grind
  have e1 : (a * D - D * D) = (a - D) * D := by grind
  obtain ⟨b1, b2⟩ := along_iff (a := a - D) hD
  have c1 : a * D ≤ D * D ↔ (a - D) * D ≤ 0 := by rw [← e1]; omega
  have c2 : D * D ≤ a * D ↔ 0 ≤ (a - D) * D := by rw [← e1]; omega
  refine ⟨?_, (along_iff hD).1, (along_iff hD).2, ?_, ?_, ?_, ?_⟩
  · rw [e0]; exact sq_iff hw h1
  · rw [c1, b2]; omega
  · rw [c2, b1]; omega
  · rw [e0]; exact sq_iff hw h1
  · rw [e1, e0]; exact sq_iff hw h1
/-- What a level piece's stroke covers: u along it, d across. -/
theorem lev_cov {w o a D L u k : Int} (hw : 0 ≤ w) (hD : D ≠ 0) (hL : L = D * D) (hu : u = a * D) (hk : k * k = o * D * (o * D)) :
    ((4 * (k * k) ≤ w * w * L ∧ 0 ≤ u ∧ u ≤ L) ↔ (-w ≤ 2 * o ∧ 2 * o ≤ w) ∧ min 0 D ≤ a ∧ a ≤ max 0 D) ∧
    ((4 * (k * k) ≤ w * w * L ∧ 0 ≤ u ∧ u ≤ L) ∨ (4 * (k * k) ≤ w * w * L ∧ u ≤ 0 ∧ 4 * (u * u) ≤ w * w * L) ∨ (4 * (k * k) ≤ w * w * L ∧ L ≤ u ∧ 4 * ((u - L) * (u - L)) ≤ w * w * L) ↔
      (-w ≤ 2 * o ∧ 2 * o ≤ w) ∧ 2 * (min 0 D - a) ≤ w ∧ 2 * (a - max 0 D) ≤ w) := by
  subst hL; subst hu
  rw [hk]
  obtain ⟨h1, h2, h3, h4, h5, h6, h7⟩ := level_iff (o := o) (a := a) hw hD
  rw [h1, h2, h3, h4, h5, h6, h7]
  constructor <;> omega
end Go.Proofs.Ytbbffeddlgfeiaa
