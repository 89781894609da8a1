/- The plain law of DashTurns. -/
import Derived.Test.YtacolepcpbhceaaLvlP
namespace Go.Proofs.Ytacolepcpbhceaa

theorem turn_cut {n p q f : Int} (hn : 1 ≤ n ∧ n ≤ 100) (hp : 1 ≤ p ∧ p ≤ 20) (hq : 1 ≤ q ∧ q ≤ 20) : cutL [p, q] f (levelL n) = ((iv [p, q] f n).flatMap sgI, 0) ∧ (iv [p, q] f n).length ≤ 100 := by
  obtain ⟨h1, h2⟩ := row_pair hp hq
  have h3 := iv_few (f := f) h1 h2 hn.1
  have h4 : (iv [p, q] f n).length ≤ 100 := by omega
  rw [cutL_level hn.1 (by omega) (by simp), if_neg (by rw [lvl_iv, sgI_len]; omega), lvl_iv]
  exact ⟨rfl, h4⟩
theorem turn_whole {n p q f : Int} (hp : 1 ≤ p ∧ p ≤ 20) (hq : 1 ≤ q ∧ q ≤ 20) (hf : 0 ≤ f) : iv [p, q] (f + 3 * (p + q)) n = iv [p, q] f n := by
  obtain ⟨h1, h2⟩ := row_pair hp hq
  have hs : ([p, q] : List Int).sum = p + q := by simp
  have he : ([p, q] : List Int).length % 2 = 0 := by simp
  have e : f + 3 * (p + q) = ((f + [p, q].sum) + [p, q].sum) + [p, q].sum := by rw [hs]; omega
  rw [e, iv_round h1 h2 he (by rw [hs]; omega), iv_round h1 h2 he (by rw [hs]; omega), iv_round h1 h2 he hf]
theorem turn_both {n p q f s : Int} (hn : 1 ≤ n) (hp : 1 ≤ p ∧ p ≤ 20) (hq : 1 ≤ q ∧ q ≤ 20) (hf : 0 ≤ f) (hs : 0 ≤ s ∧ s < n) : cov (iv [p, q] f n) s + cov (iv [q, p] (f + q) n) s = 1 := by
  obtain ⟨a1, a0⟩ := iv_cov (f := f) (row_pair hp hq).1 (by omega) hs
  obtain ⟨b1, b0⟩ := iv_cov (f := f + q) (row_pair hq hp).1 (by omega) hs
  rw [pair_cover hp.1 hq.1 (by omega)] at a1 a0
  rw [pair_cover hq.1 hp.1 (by omega)] at b1 b0
  have he := pair_either (t := s + f) hp.1 hq.1
  have e : s + (f + q) = s + f + q := by omega
  rw [e] at b1 b0
  by_cases h : (s + f) % (p + q) < p
  · rw [a1 h, b0 (he.1 h)]; rfl
  · rw [a0 h, b1 (Decidable.byContradiction fun hh => h (he.2 hh))]; rfl
theorem iv_in {on : List Int} {f n : Int} (h : Row on) (hn : 0 ≤ n) : ∀ q ∈ iv on f n, 0 ≤ q.1 ∧ q.1 ≤ q.2 ∧ q.2 ≤ n := fun q hq => by
  have := ivTo_in h hn hq; omega

/-- An array's numbers. -/
def arr (N : Nat) (F : Nat → Int) : List Int := (List.range N).map F
theorem arr_len (N : Nat) (F : Nat → Int) : (arr N F).length = N := by simp [arr]
theorem arr_get (N : Nat) (F : Nat → Int) (i : Nat) (h : i < N) : (arr N F)[i]? = some (F i) := by simp [arr, h]
theorem arr_set (N : Nat) (F : Nat → Int) (i : Nat) (v : Int) : (arr N F).set i v = arr N (fun t => if t = i then v else F t) := by
  apply List.ext_getElem
  · simp [arr]
  · intro k h1 h2
    rw [List.getElem_set]
    simp only [arr, List.getElem_map, List.getElem_range]
    by_cases h : i = k
    · rw [if_pos h, if_pos h.symm]
    · rw [if_neg h, if_neg (fun hh => h hh.symm)]
theorem arr_congr {N : Nat} {F G : Nat → Int} (h : ∀ i, i < N → F i = G i) : arr N F = arr N G := by
  unfold arr; exact List.map_congr_left fun i hi => h i (List.mem_range.1 hi)

theorem cov_bd (l : List (Int × Int)) (s : Int) : 0 ≤ cov l s ∧ cov l s ≤ l.length := by
  unfold cov
  have := List.length_filter_le (fun q : Int × Int => decide (q.1 ≤ s) && decide (s < q.2)) l
  omega

theorem cov_ok {l : List (Int × Int)} {m : Nat} (h : l.length = m) (hm : m ≤ 100) : ∀ s : Int, 0 ≤ cov l s ∧ cov l s ≤ 100 := fun s => by have := cov_bd l s; omega

end Go.Proofs.Ytacolepcpbhceaa
