/- The plain law of DashSquare. -/
import Derived.Test.YtbbffeddlgfeiaaDash7P
namespace Go.Proofs.Ytbbffeddlgfeiaa

section
variable {u v n : Int}
def squareL (u v n : Int) : List Sg := [⟨1, u, v, 0, 0⟩, ⟨2, u + n, v, 0, 0⟩, ⟨2, u + n, v + n, 0, 0⟩, ⟨2, u, v + n, 0, 0⟩, ⟨4, 0, 0, 0, 0⟩]
def sqE1 (u v n : Int) : Ed := ⟨u, v, false, 0, 0, u + n, v⟩
def sqE2 (u v n : Int) : Ed := ⟨u + n, v, false, 0, 0, u + n, v + n⟩
def sqE3 (u v n : Int) : Ed := ⟨u + n, v + n, false, 0, 0, u, v + n⟩
def sqE4 (u v n : Int) : Ed := ⟨u, v + n, false, 0, 0, u, v⟩
def sqPs (u v n : Int) : List Ed := [sqE1 u v n, sqE2 u v n, sqE3 u v n, sqE4 u v n]
def sqW (u v n : Int) (k : Nat) : List Sg :=
  if k % 2 = 1 then [⟨1, u + n, v, 0, 0⟩, ⟨2, u + n, v + n, 0, 0⟩, ⟨1, u, v + n, 0, 0⟩, ⟨2, u, v, 0, 0⟩] else [⟨1, u, v, 0, 0⟩, ⟨2, u + n, v, 0, 0⟩, ⟨1, u + n, v + n, 0, 0⟩, ⟨2, u, v + n, 0, 0⟩]

theorem sq_len {e : Ed} (h : sqE e = n * n) (h0 : 0 ≤ n) (h1 : n ≤ 8191) : lenE e = n := by
  unfold lenE
  rw [h]
  have h3 := sq_le (a := n) (b := 8191) h0 h1
  have e : (n + 1) * (n + 1) = n * n + 2 * n + 1 := by grind
  exact flr_eq h0 (by omega) (by omega) (by omega)
theorem sq_lens (h0 : 1 ≤ n) (h1 : n ≤ 8191) : lenE (sqE1 u v n) = n ∧ lenE (sqE2 u v n) = n ∧ lenE (sqE3 u v n) = n ∧ lenE (sqE4 u v n) = n :=
  ⟨sq_len (by simp only [sqE, sqE1]; grind) (by omega) h1, sq_len (by simp only [sqE, sqE2]; grind) (by omega) h1, sq_len (by simp only [sqE, sqE3]; grind) (by omega) h1, sq_len (by simp only [sqE, sqE4]; grind) (by omega) h1⟩
theorem sq_may (hu : -400 ≤ u ∧ u ≤ 400) (hv : -400 ≤ v ∧ v ≤ 400) (hn : 1 ≤ n ∧ n ≤ 500) : mayB (squareL u v n) = true := by
  have a : co u = true := by simp [co]; omega
  have b : co v = true := by simp [co]; omega
  have c : co (u + n) = true := by simp [co]; omega
  have d : co (v + n) = true := by simp [co]; omega
  simp [mayB, squareL, mayFrom, rightB, nearB, a, b, c, d, show co 0 = true by decide]
theorem sq_cts (hu : -400 ≤ u ∧ u ≤ 400) (hv : -400 ≤ v ∧ v ≤ 400) (hn : 1 ≤ n ∧ n ≤ 500) : ctsL (squareL u v n) = [⟨u, v, [sqE1 u v n, sqE2 u v n, sqE3 u v n], true⟩] := by
  rw [ctsL_may (sq_may hu hv hn)]; rfl
theorem sq_pieces (hn : 1 ≤ n) : piecesC ⟨u, v, [sqE1 u v n, sqE2 u v n, sqE3 u v n], true⟩ = sqPs u v n := by
  have m1 : moved (sqE1 u v n) = true := by simp [moved, sqE1]; omega
  have m2 : moved (sqE2 u v n) = true := by simp [moved, sqE2]; omega
  have m3 : moved (sqE3 u v n) = true := by simp [moved, sqE3]; omega
  have hb : backE ⟨u, v, [sqE1 u v n, sqE2 u v n, sqE3 u v n], true⟩ = sqE4 u v n := rfl
  have m4 : moved (sqE4 u v n) = true := by simp [moved, sqE4]; omega
  unfold piecesC
  rw [hb]
  simp [m1, m2, m3, m4, sqPs]
theorem sq_sum (hn : 1 ≤ n) (h1 : n ≤ 8191) : sumL (sqPs u v n) = 4 * n := by
  obtain ⟨a, b, c, d⟩ := sq_lens (u := u) (v := v) hn h1
  simp only [sumL, sqPs, a, b, c, d]; omega
/-- A piece's beginning and end. -/
theorem atE_ends {e : Ed} (h : 1 ≤ lenE e) : atE e 0 = (e.x0, e.y0) ∧ atE e (lenE e) = (e.x1, e.y1) := by
  unfold atE
  have e1 : e.x0 * lenE e + (e.x1 - e.x0) * 0 = e.x0 * lenE e := by grind
  have e2 : e.y0 * lenE e + (e.y1 - e.y0) * 0 = e.y0 * lenE e := by grind
  have e3 : e.x0 * lenE e + (e.x1 - e.x0) * lenE e = e.x1 * lenE e := by grind
  have e4 : e.y0 * lenE e + (e.y1 - e.y0) * lenE e = e.y1 * lenE e := by grind
  rw [e1, e2, e3, e4, rnd_exact _ _ (by omega), rnd_exact _ _ (by omega), rnd_exact _ _ (by omega), rnd_exact _ _ (by omega)]
  exact ⟨rfl, rfl⟩
/-- The corners. -/
theorem sq_at (hn : 1 ≤ n) (h1 : n ≤ 8191) : atW (sqPs u v n) 0 = (u, v) ∧ atW (sqPs u v n) n = (u + n, v) ∧ atW (sqPs u v n) (2 * n) = (u + n, v + n) ∧ atW (sqPs u v n) (3 * n) = (u, v + n) ∧ atW (sqPs u v n) (4 * n) = (u, v) := by
  obtain ⟨a, b, c, d⟩ := sq_lens (u := u) (v := v) hn h1
  have a1 := atE_ends (e := sqE1 u v n) (by omega)
  have b1 := (atE_ends (e := sqE2 u v n) (by omega)).2
  have c1 := (atE_ends (e := sqE3 u v n) (by omega)).2
  have d1 := (atE_ends (e := sqE4 u v n) (by omega)).2
  rw [a] at a1
  rw [b] at b1
  rw [c] at c1
  rw [d] at d1
  unfold sqPs
  refine ⟨?_, ?_, ?_, ?_, ?_⟩
  · rw [atW, a, if_pos (by omega), a1.1]; rfl
  · rw [atW, a, if_pos (by omega), a1.2]; rfl
  · rw [atW, a, if_neg (by omega), atW, b, if_pos (by omega), show 2 * n - n = n by omega, b1]; rfl
  · rw [atW, a, if_neg (by omega), atW, b, if_neg (by omega), atW, c, if_pos (by omega), show 3 * n - n - n = n by omega, c1]; rfl
  · rw [atW, a, if_neg (by omega), atW, b, if_neg (by omega), atW, c, if_neg (by omega), atW, d, if_pos (by omega), show 4 * n - n - n - n = n by omega, d1]; rfl
theorem sq_part (hn : 1 ≤ n) (h1 : n ≤ 8191) (i : Int) (hi : 0 ≤ i ∧ i ≤ 3) : innW (sqPs u v n) (i * n) ((i + 1) * n) = [] := by
  obtain ⟨a, b, c, d⟩ := sq_lens (u := u) (v := v) hn h1
  have hc : i = 0 ∨ i = 1 ∨ i = 2 ∨ i = 3 := by omega
  unfold innW sqPs
  simp only [innF, a, b, c, d, innE]
  rcases hc with rfl | rfl | rfl | rfl <;>
    (rw [if_neg (by omega), if_neg (by omega), if_neg (by omega), if_neg (by omega)]; rfl)
theorem pre_one (n : Int) : ∀ j, pre [n] j = j * n
  | 0 => by simp [pre]
  | j + 1 => by
    have := pre_one n j
    simp only [pre, this, List.length_singleton, Nat.mod_one, List.getD_cons_zero]; grind
theorem pre_two (n : Int) (j : Nat) : pre [n, n] j = j * n := by
  rw [← pre_one n j]; exact pre_dbl [n] j
/-- One dash. -/
theorem sq_dash {on : List Int} (hp : ∀ j, pre on j = j * n) (hn : 1 ≤ n) (h1 : n ≤ 8191) (k j : Nat) :
    dashAt on (k * n) (sqPs u v n) j = if j % 2 = 0 ∧ k ≤ j ∧ j < k + 4 then ⟨1, (atW (sqPs u v n) ((j - k : Int) * n)).1, (atW (sqPs u v n) ((j - k : Int) * n)).2, 0, 0⟩ :: [⟨2, (atW (sqPs u v n) ((j - k + 1 : Int) * n)).1, (atW (sqPs u v n) ((j - k + 1 : Int) * n)).2, 0, 0⟩] else [] := by
  unfold dashAt
  rw [sq_sum hn h1, hp, hp]
  have e1 : (j : Int) * n - k * n = (j - k) * n := by grind
  have e2 : ((j + 1 : Nat) : Int) * n - k * n = (j - k + 1) * n := by grind
  rw [e1, e2]
  have hmul : ∀ a b : Int, a ≤ b → a * n ≤ b * n := fun a b h => Int.mul_le_mul_of_nonneg_right h (by omega)
  by_cases h : j % 2 = 0 ∧ k ≤ j ∧ j < k + 4
  · have a1 := hmul ((j : Int) - k) 3 (by omega)
    have a2 := hmul 1 ((j : Int) - k + 1) (by omega)
    have a3 := hmul 0 ((j : Int) - k) (by omega)
    have a4 := hmul ((j : Int) - k + 1) 4 (by omega)
    rw [if_pos h, if_pos ⟨h.1, by omega, by omega, .inl (by omega)⟩]
    have m1 : max (((j : Int) - k) * n) 0 = ((j : Int) - k) * n := by omega
    have m2 : min (((j : Int) - k + 1) * n) (4 * n) = ((j : Int) - k + 1) * n := by omega
    rw [m1, m2]
    unfold partW
    rw [sq_part hn h1 _ (by omega)]; rfl
  · rw [if_neg h, if_neg]
    rintro ⟨h2, _, h3, h4⟩
    refine h ⟨h2, ?_, ?_⟩
    · apply Decidable.byContradiction; intro hk
      have := hmul ((j : Int) - k + 1) 0 (by omega)
      have := hmul ((j : Int) - k) (-1) (by omega)
      omega
    · apply Decidable.byContradiction; intro hk
      have := hmul 4 ((j : Int) - k) (by omega)
      omega
theorem sq_row1 (hn : 1 ≤ n) (h1 : n ≤ 8191) : Row [n] := ⟨by simp; omega, by simp; omega, by simp; omega⟩
theorem sq_row2 (hn : 1 ≤ n) (h1 : n ≤ 8191) : Row [n, n] := ⟨by simp; omega, by simp; omega, by simp; omega⟩
theorem sq_cut {on : List Int} (hr : Row on) (hp : ∀ j, pre on j = j * n) (hu : -400 ≤ u ∧ u ≤ 400) (hv : -400 ≤ v ∧ v ≤ 400) (hn : 1 ≤ n ∧ n ≤ 500) (k : Nat) (hk : k < 6) : cutL on (k * n) (squareL u v n) = (sqW u v n k, 0) := by
  have hd : dashL on (k * n) (squareL u v n) = sqW u v n k := by
    unfold dashL
    rw [sq_cts hu hv hn]
    simp only [List.flatMap_cons, List.flatMap_nil, List.append_nil]
    unfold dashC
    rw [sq_pieces hn.1, ← dashTo_all hr (k := k + 4) (by rw [sq_sum hn.1 (by omega), hp]; have e : (((k + 4 : Nat) : Int)) * n = k * n + 4 * n := by grind
                                                         omega)]
    unfold dashTo
    have hf : dashAt on (k * n) (sqPs u v n) = _ := funext fun j => sq_dash hp hn.1 (by omega) k j
    rw [hf]
    obtain ⟨p0, p1, p2, p3, p4⟩ := sq_at (u := u) (v := v) hn.1 (show n ≤ 8191 by omega)
    have hc : k = 0 ∨ k = 1 ∨ k = 2 ∨ k = 3 ∨ k = 4 ∨ k = 5 := by omega
    rcases hc with rfl | rfl | rfl | rfl | rfl | rfl <;>
      simp [List.range_succ, sqW, p0, p1, p2, p3, p4]
  rw [cutL_all hr.ne (by rw [hd]; unfold sqW; split <;> simp), hd]
end

end Go.Proofs.Ytbbffeddlgfeiaa
