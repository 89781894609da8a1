/- The plain law of DashLevel. -/
import Derived.Test.YtacolepcpbhceaaTurnP
namespace Go.Proofs.Ytacolepcpbhceaa

/-- How many are points. -/
def dotc (l : List (Int × Int)) : Int := (l.filter fun q => q.1 == q.2).length
theorem dotc_app (a b : List (Int × Int)) : dotc (a ++ b) = dotc a + dotc b := by simp [dotc]
theorem dotc_one (q : Int × Int) : dotc [q] = if q.1 = q.2 then 1 else 0 := by
  unfold dotc
  by_cases h : q.1 = q.2
  · rw [if_pos h]; simp [h]
  · rw [if_neg h]; simp [h]
theorem dotc_bd (l : List (Int × Int)) : 0 ≤ dotc l ∧ dotc l ≤ l.length := by
  unfold dotc
  have := List.length_filter_le (fun q : Int × Int => q.1 == q.2) l
  omega
def ptsTo (on : List Int) (f n : Int) : Nat → Int
  | 0 => 0
  | k + 1 => ptsTo on f n k + if k % 2 = 0 ∧ on.getD (k % on.length) 0 = 0 ∧ f ≤ pre on k ∧ pre on k < n + f then 1 else 0
theorem ptsTo_bd (on : List Int) (f n : Int) : ∀ k, 0 ≤ ptsTo on f n k ∧ ptsTo on f n k ≤ k
  | 0 => by simp [ptsTo]
  | k + 1 => by
    have := ptsTo_bd on f n k
    simp only [ptsTo]; split <;> omega
section
variable {on : List Int} {f n : Int}
theorem dot_iv (h : Row on) (hn : 1 ≤ n) : ∀ k, dotc (ivTo on f n k) = ptsTo on f n k
  | 0 => rfl
  | k + 1 => by
    rw [ivTo_succ, dotc_app, dot_iv h hn k]
    have hz := (h.get k).1
    have hp : pre on (k + 1) = pre on k + on.getD (k % on.length) 0 := rfl
    simp only [ptsTo]
    congr 1
    unfold ivAt
    rw [hp]
    generalize on.getD (k % on.length) 0 = z at *
    generalize pre on k = p at *
    by_cases hc : k % 2 = 0 ∧ p - f < n ∧ (0 < p + z - f ∨ (p + z - f = 0 ∧ p - f = 0))
    · rw [if_pos hc, dotc_one]
      simp only
      by_cases he : max (p - f) 0 = min (p + z - f) n
      · rw [if_pos he, if_pos (by omega)]
      · rw [if_neg he, if_neg (by omega)]
    · rw [if_neg hc, if_neg (by omega)]; rfl
theorem dot_all (h : Row on) (hn : 1 ≤ n) {k : Nat} (hk : n + f ≤ pre on (k + 1)) : dotc (iv on f n) = ptsTo on f n k := by
  have h1 : iv on f n = ivTo on f n (k + 1) := ivTo_same h (bnd_past h) (by omega)
  rw [h1, dot_iv h hn]
  have hp : pre on (k + 1) = pre on k + on.getD (k % on.length) 0 := rfl
  simp only [ptsTo]
  rw [if_neg (by omega)]; omega
theorem drawn_is (h : Row on) (hn : 0 ≤ n) {s : Int} (hs : 0 ≤ s ∧ s < n) {k : Nat} (h1 : pre on k ≤ s + f) (h2 : s + f < pre on (k + 1)) : decide (0 < cov (iv on f n) s) = decide (k % 2 = 0) := by
  obtain ⟨a1, a0⟩ := iv_cov (f := f) h hn hs
  by_cases hk : k % 2 = 0
  · rw [a1 ⟨k, hk, h1, h2⟩]; simp [hk]
  · rw [a0 ?_]
    · simp [hk]
    · rintro ⟨j, hj, h3, h4⟩
      have : j = k := by
        rcases Nat.lt_trichotomy j k with hl | hl | hl
        · have := h.mono (show j + 1 ≤ k by omega); omega
        · exact hl
        · have := h.mono (show k + 1 ≤ j by omega); omega
      subst this; exact hk hj
end
theorem cov_zero {l : List (Int × Int)} {s : Int} (h : ∀ q ∈ l, q.2 ≤ s) : cov l s = 0 := by
  unfold cov
  have : (l.filter fun q => decide (q.1 ≤ s) && decide (s < q.2)) = [] := by
    rw [List.filter_eq_nil_iff]
    intro q hq
    have := h q hq
    simp; omega
  rw [this]; rfl
theorem sorted_take {l : List (Int × Int)} (h : l.Pairwise (fun q r => q.2 ≤ r.1)) (j : Nat) (hj : j < l.length) : ∀ q ∈ l.take j, q.2 ≤ l[j].1 := by
  intro q hq
  have e : l = l.take j ++ l.drop j := (List.take_append_drop j l).symm
  rw [e, List.pairwise_append] at h
  refine h.2.2 q hq _ ?_
  rw [List.drop_eq_getElem_cons hj]; exact List.mem_cons_self

/-- An array's truths. -/
def arrB (N : Nat) (F : Nat → Bool) : List Bool := (List.range N).map F
theorem arrB_len (N : Nat) (F : Nat → Bool) : (arrB N F).length = N := by simp [arrB]
theorem arrB_set (N : Nat) (F : Nat → Bool) (i : Nat) (v : Bool) : (arrB N F).set i v = arrB N (fun t => if t = i then v else F t) := by
  apply List.ext_getElem
  · simp [arrB]
  · intro k h1 h2
    rw [List.getElem_set]
    simp only [arrB, List.getElem_map, List.getElem_range]
    by_cases h : i = k
    · rw [if_pos h, if_pos h.symm]
    · rw [if_neg h, if_neg (fun hh => h hh.symm)]
theorem arrB_congr {N : Nat} {F G : Nat → Bool} (h : ∀ i, i < N → F i = G i) : arrB N F = arrB N G := by
  unfold arrB; exact List.map_congr_left fun i hi => h i (List.mem_range.1 hi)

end Go.Proofs.Ytacolepcpbhceaa
