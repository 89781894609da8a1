/- The plain side of a level piece's dashes. -/
import Derived.Test.YtbbffeddlgfeiaaDash6P
namespace Go.Proofs.Ytbbffeddlgfeiaa

def levelL (n : Int) : List Sg := [⟨1, 0, 0, 0, 0⟩, ⟨2, n, 0, 0, 0⟩]
def levelE (n : Int) : Ed := ⟨0, 0, false, 0, 0, n, 0⟩
/-- The part from a to b of a level piece. -/
def lvlP (a b : Int) : List Sg := [⟨1, a, 0, 0, 0⟩, ⟨2, b, 0, 0, 0⟩]
def lvlAt (on : List Int) (f n : Int) (j : Nat) : List Sg :=
  if j % 2 = 0 ∧ pre on j - f < n ∧ (0 < pre on (j + 1) - f ∨ (pre on (j + 1) - f = 0 ∧ pre on j - f = 0)) then lvlP (max (pre on j - f) 0) (min (pre on (j + 1) - f) n) else []
def lvlTo (on : List Int) (f n : Int) (k : Nat) : List Sg := (List.range k).flatMap (lvlAt on f n)
def lvl (on : List Int) (f n : Int) : List Sg := lvlTo on f n (bnd on f n)

section
variable {n : Int}
theorem level_may (h0 : 0 ≤ n) (h1 : n ≤ 8191) : mayB (levelL n) = true := by
  have hc : co n = true := by simp [co]; omega
  simp [mayB, levelL, mayFrom, rightB, nearB, hc, show co 0 = true by decide]
theorem level_cts (h0 : 0 ≤ n) (h1 : n ≤ 8191) : ctsL (levelL n) = [⟨0, 0, [levelE n], false⟩] := by
  rw [ctsL_may (level_may h0 h1)]; rfl
theorem level_len (h0 : 0 ≤ n) (h1 : n ≤ 8191) : lenE (levelE n) = n := by
  unfold lenE sqE levelE
  simp only [Int.sub_zero]
  have h3 := sq_le (a := n) (b := 8191) h0 h1
  have e : (n + 1) * (n + 1) = n * n + 2 * n + 1 := by grind
  exact flr_eq h0 (by omega) (by omega) (by omega)
theorem level_ok (h0 : 0 ≤ n) (h1 : n ≤ 8191) : edOK (levelE n) = true := edOK_mk (by omega) (by omega) (by omega) (by omega) (by omega) (by omega) (.inr ⟨rfl, rfl⟩)
theorem level_moved (h0 : 1 ≤ n) : moved (levelE n) = true := by
  unfold moved levelE; simp; omega
theorem level_pieces (h0 : 1 ≤ n) : piecesC ⟨0, 0, [levelE n], false⟩ = [levelE n] := by
  unfold piecesC; simp [level_moved h0]
theorem level_sum (h0 : 0 ≤ n) (h1 : n ≤ 8191) : sumL [levelE n] = n := by simp only [sumL, level_len h0 h1]; omega
theorem level_at (h0 : 1 ≤ n) (h1 : n ≤ 8191) {k : Int} (hk1 : k ≤ n) : atW [levelE n] k = (k, 0) := by
  have hl := level_len (n := n) (by omega) h1
  unfold atW
  rw [hl, if_pos hk1]
  unfold atE
  rw [hl]
  have e1 : (levelE n).x0 * n + ((levelE n).x1 - (levelE n).x0) * k = k * n := by simp only [levelE]; grind
  have e2 : (levelE n).y0 * n + ((levelE n).y1 - (levelE n).y0) * k = 0 * n := by simp only [levelE]; grind
  rw [e1, e2, rnd_exact _ _ (by omega), rnd_exact _ _ (by omega)]
theorem level_part (h0 : 1 ≤ n) (h1 : n ≤ 8191) {a b : Int} (ha : a ≤ n) (hb : b ≤ n) : partW [levelE n] a b = lvlP a b := by
  unfold partW
  rw [level_at h0 h1 ha, level_at h0 h1 hb]
  have : innW [levelE n] a b = [] := by
    unfold innW innF innF innE
    rw [level_len (by omega) h1, if_neg (by omega)]; rfl
  rw [this]; rfl
theorem level_dashAt (h0 : 1 ≤ n) (h1 : n ≤ 8191) (on : List Int) (f : Int) (j : Nat) : dashAt on f [levelE n] j = lvlAt on f n j := by
  unfold dashAt lvlAt
  rw [level_sum (by omega) h1]
  by_cases h : j % 2 = 0 ∧ pre on j - f < n ∧ (0 < pre on (j + 1) - f ∨ (pre on (j + 1) - f = 0 ∧ pre on j - f = 0))
  · rw [if_pos h, if_pos ⟨h.1, by omega, h.2⟩, level_part h0 h1 (by omega) (by omega)]
  · rw [if_neg h, if_neg (fun hh => h ⟨hh.1, hh.2.2⟩)]
theorem dashL_level (h0 : 1 ≤ n) (h1 : n ≤ 8191) (on : List Int) (f : Int) : dashL on f (levelL n) = lvl on f n := by
  unfold dashL
  rw [level_cts (by omega) h1]
  simp only [List.flatMap_cons, List.flatMap_nil, List.append_nil]
  unfold dashC dashW dashTo lvl lvlTo
  rw [level_pieces h0, level_sum (by omega) h1]
  congr 1
  funext j
  exact level_dashAt h0 h1 on f j
theorem cutL_level (h0 : 1 ≤ n) (h1 : n ≤ 8191) {on : List Int} (hne : on ≠ []) (f : Int) : cutL on f (levelL n) = if 300 < (lvl on f n).length then ([], 5) else (lvl on f n, 0) := by
  unfold cutL; rw [if_neg hne, dashL_level h0 h1]
end

theorem known_1 : cutL [4, 2] 0 (levelL 10) = ([⟨1, 0, 0, 0, 0⟩, ⟨2, 4, 0, 0, 0⟩, ⟨1, 6, 0, 0, 0⟩, ⟨2, 10, 0, 0, 0⟩], 0) := by
  rw [cutL_level (by omega) (by omega) (by simp)]; decide +kernel
theorem known_2 : cutL [4, 2] 4 (levelL 10) = ([⟨1, 2, 0, 0, 0⟩, ⟨2, 6, 0, 0, 0⟩, ⟨1, 8, 0, 0, 0⟩, ⟨2, 10, 0, 0, 0⟩], 0) := by
  rw [cutL_level (by omega) (by omega) (by simp)]; decide +kernel
theorem known_3 : cutL [0, 3] 0 (levelL 5) = ([⟨1, 0, 0, 0, 0⟩, ⟨2, 0, 0, 0, 0⟩, ⟨1, 3, 0, 0, 0⟩, ⟨2, 3, 0, 0, 0⟩], 0) := by
  rw [cutL_level (by omega) (by omega) (by simp)]; decide +kernel

end Go.Proofs.Ytbbffeddlgfeiaa
