/- The plain side of the dashes of a level piece: from where to where each one leads, which units they cover. -/
import Derived.Test.YtacolepcpbhceaaDash7P
namespace Go.Proofs.Ytacolepcpbhceaa

def ivAt (on : List Int) (f n : Int) (j : Nat) : List (Int × Int) :=
  if j % 2 = 0 ∧ pre on j - f < n ∧ (0 < pre on (j + 1) - f ∨ (pre on (j + 1) - f = 0 ∧ pre on j - f = 0)) then [(max (pre on j - f) 0, min (pre on (j + 1) - f) n)] else []
def ivTo (on : List Int) (f n : Int) (k : Nat) : List (Int × Int) := (List.range k).flatMap (ivAt on f n)
def iv (on : List Int) (f n : Int) : List (Int × Int) := ivTo on f n (bnd on f n)
def sgI (q : Int × Int) : List Sg := lvlP q.1 q.2
theorem lvlAt_iv (on : List Int) (f n : Int) (j : Nat) : lvlAt on f n j = (ivAt on f n j).flatMap sgI := by
  unfold lvlAt ivAt
  split <;> simp [sgI]
theorem lvl_iv (on : List Int) (f n : Int) : lvl on f n = (iv on f n).flatMap sgI := by
  unfold lvl lvlTo iv ivTo
  rw [List.flatMap_assoc]
  congr 1
  funext j
  exact lvlAt_iv on f n j
theorem sgI_len (l : List (Int × Int)) : (l.flatMap sgI).length = 2 * l.length := by
  induction l with
  | nil => rfl
  | cons a l ih => rw [List.flatMap_cons, List.length_append, ih, List.length_cons]; simp [sgI, lvlP]; omega
theorem sgI_get (l : List (Int × Int)) (i : Nat) (h : i < l.length) (h0 : 2 * i < (l.flatMap sgI).length) (h1 : 2 * i + 1 < (l.flatMap sgI).length) :
    (l.flatMap sgI)[2 * i] = ⟨1, l[i].1, 0, 0, 0⟩ ∧ (l.flatMap sgI)[2 * i + 1] = ⟨2, l[i].2, 0, 0, 0⟩ := by
  induction l generalizing i with
  | nil => simp at h
  | cons a l ih =>
    cases i with
    | zero => simp [sgI, lvlP]
    | succ i =>
      have h' : i < l.length := by simpa using h
      have e : ∀ j (hj : j < ((a :: l).flatMap sgI).length) (hj2 : 2 ≤ j), ((a :: l).flatMap sgI)[j] = (l.flatMap sgI)[j - 2]'(by rw [sgI_len] at hj ⊢; rw [List.length_cons] at hj; omega) := by
        intro j hj hj2
        simp only [List.flatMap_cons]
        rw [List.getElem_append_right (by simp [sgI, lvlP]; omega)]
        simp [sgI, lvlP]
      have := ih i h' (by rw [sgI_len]; omega) (by rw [sgI_len]; omega)
      rw [e _ h0 (by omega), e _ h1 (by omega)]
      have e1 : 2 * (i + 1) - 2 = 2 * i := by omega
      have e2 : 2 * (i + 1) + 1 - 2 = 2 * i + 1 := by omega
      simp only [e1, e2, List.getElem_cons_succ]
      exact this
theorem sgI_x (l : List (Int × Int)) {n : Int} (h : ∀ q ∈ l, 0 ≤ q.1 ∧ q.1 ≤ q.2 ∧ q.2 ≤ n) : ∀ s ∈ l.flatMap sgI, 0 ≤ s.x ∧ s.x ≤ n := by
  intro s hs
  rw [List.mem_flatMap] at hs
  obtain ⟨q, hq, hs⟩ := hs
  have := h q hq
  simp only [sgI, lvlP, List.mem_cons, List.not_mem_nil, or_false] at hs
  rcases hs with rfl | rfl <;> simp only <;> omega

section
variable {on : List Int} {f n : Int}
theorem ivTo_succ (on : List Int) (f n : Int) (k : Nat) : ivTo on f n (k + 1) = ivTo on f n k ++ ivAt on f n k := by simp [ivTo, List.range_succ]
theorem mem_ivAt {j : Nat} {q : Int × Int} : q ∈ ivAt on f n j ↔ (j % 2 = 0 ∧ pre on j - f < n ∧ (0 < pre on (j + 1) - f ∨ (pre on (j + 1) - f = 0 ∧ pre on j - f = 0))) ∧ q = (max (pre on j - f) 0, min (pre on (j + 1) - f) n) := by
  unfold ivAt
  by_cases h : j % 2 = 0 ∧ pre on j - f < n ∧ (0 < pre on (j + 1) - f ∨ (pre on (j + 1) - f = 0 ∧ pre on j - f = 0))
  · rw [if_pos h, List.mem_singleton]; exact ⟨fun hh => ⟨h, hh⟩, fun hh => hh.2⟩
  · rw [if_neg h]; exact ⟨fun hh => by simp at hh, fun hh => absurd hh.1 h⟩
theorem mem_ivTo {k : Nat} {q : Int × Int} : q ∈ ivTo on f n k ↔ ∃ j, j < k ∧ q ∈ ivAt on f n j := by simp [ivTo, List.mem_flatMap]
theorem ivTo_in (h : Row on) (hn : 0 ≤ n) {k : Nat} {q : Int × Int} (hq : q ∈ ivTo on f n k) : 0 ≤ q.1 ∧ q.1 ≤ q.2 ∧ q.2 ≤ n ∧ q.2 ≤ max (pre on k - f) 0 := by
  obtain ⟨j, hj, hq⟩ := mem_ivTo.1 hq
  obtain ⟨hc, rfl⟩ := mem_ivAt.1 hq
  have h1 := (h.step j).1
  have h2 := h.mono (show j + 1 ≤ k by omega)
  simp only
  omega
theorem ivTo_sorted (h : Row on) (hn : 0 ≤ n) : ∀ k, (ivTo on f n k).Pairwise (fun q r => q.2 ≤ r.1)
  | 0 => List.Pairwise.nil
  | k + 1 => by
    rw [ivTo_succ, List.pairwise_append]
    refine ⟨ivTo_sorted h hn k, ?_, ?_⟩
    · unfold ivAt; split <;> simp
    · intro q hq r hr
      obtain ⟨_, rfl⟩ := mem_ivAt.1 hr
      exact (ivTo_in h hn hq).2.2.2
/-- Where all lengths are above 0, there are no more dashes than units. -/
theorem ivTo_few (h : Row on) (hp : ∀ v ∈ on, 1 ≤ v) (hn : 1 ≤ n) : ∀ k, ((ivTo on f n k).length : Int) ≤ max 0 (min (pre on k - f) n)
  | 0 => by simp [ivTo]; omega
  | k + 1 => by
    have ih := ivTo_few h hp hn k
    have hs := (h.step k).1
    have h1 : pre on k + 1 ≤ pre on (k + 1) := by
      have hl : k % on.length < on.length := Nat.mod_lt _ h.len
      have := hp _ (List.getElem_mem hl)
      simp only [pre]
      rw [List.getD_eq_getElem?_getD, List.getElem?_eq_getElem hl]
      simp only [Option.getD_some]; omega
    rw [ivTo_succ, List.length_append]
    unfold ivAt
    split
    · rename_i hc
      simp only [List.length_singleton]; omega
    · simp only [List.length_nil]; omega
theorem iv_all (h : Row on) {q : Int × Int} : q ∈ iv on f n ↔ ∃ j, q ∈ ivAt on f n j := by
  unfold iv
  rw [mem_ivTo]
  constructor
  · rintro ⟨j, _, hq⟩; exact ⟨j, hq⟩
  · rintro ⟨j, hq⟩
    exact ⟨j, lt_bnd h (mem_ivAt.1 hq).1.2.1, hq⟩
/-- A unit is covered where an even length leads over it. -/
theorem iv_cover (h : Row on) {s : Int} (hs : 0 ≤ s ∧ s < n) : (∃ q ∈ iv on f n, q.1 ≤ s ∧ s < q.2) ↔ ∃ j, j % 2 = 0 ∧ pre on j ≤ s + f ∧ s + f < pre on (j + 1) := by
  constructor
  · rintro ⟨q, hq, h1, h2⟩
    obtain ⟨j, hj⟩ := (iv_all h).1 hq
    obtain ⟨hc, rfl⟩ := mem_ivAt.1 hj
    simp only at h1 h2
    exact ⟨j, hc.1, by omega, by omega⟩
  · rintro ⟨j, hj, h1, h2⟩
    refine ⟨_, (iv_all h).2 ⟨j, mem_ivAt.2 ⟨⟨hj, by omega, .inl (by omega)⟩, rfl⟩⟩, ?_, ?_⟩ <;> simp only <;> omega
/-- How many cover a unit. -/
def cov (l : List (Int × Int)) (s : Int) : Int := (l.filter fun q => decide (q.1 ≤ s) && decide (s < q.2)).length
theorem cov_app (a b : List (Int × Int)) (s : Int) : cov (a ++ b) s = cov a s + cov b s := by simp [cov]
theorem cov_one (q : Int × Int) (s : Int) : cov [q] s = if q.1 ≤ s ∧ s < q.2 then 1 else 0 := by
  unfold cov
  by_cases h : q.1 ≤ s ∧ s < q.2
  · rw [if_pos h]; simp [h.1, h.2]
  · rw [if_neg h]
    have : (decide (q.1 ≤ s) && decide (s < q.2)) = false := by simp; omega
    simp [this]
theorem cov_sorted : ∀ (l : List (Int × Int)) (s : Int), l.Pairwise (fun q r => q.2 ≤ r.1) → (∀ q ∈ l, q.1 ≤ q.2) → cov l s = if ∃ q ∈ l, q.1 ≤ s ∧ s < q.2 then 1 else 0
  | [], s, _, _ => by simp [cov]
  | a :: l, s, h, hq => by
    rw [List.pairwise_cons] at h
    have ih := cov_sorted l s h.2 (fun q hh => hq q (by simp [hh]))
    have : cov (a :: l) s = cov [a] s + cov l s := cov_app [a] l s
    rw [this, cov_one, ih]
    by_cases h1 : a.1 ≤ s ∧ s < a.2
    · have h2 : ¬ ∃ q ∈ l, q.1 ≤ s ∧ s < q.2 := by
        rintro ⟨q, hh, h3, h4⟩
        have := h.1 q hh; omega
      rw [if_pos h1, if_neg h2, if_pos ⟨a, by simp, h1⟩]; rfl
    · rw [if_neg h1]
      by_cases h2 : ∃ q ∈ l, q.1 ≤ s ∧ s < q.2
      · obtain ⟨q, hh, h3⟩ := h2
        rw [if_pos ⟨q, hh, h3⟩, if_pos ⟨q, by simp [hh], h3⟩]; rfl
      · rw [if_neg h2, if_neg]; · rfl
        rintro ⟨q, hh, h3⟩
        rcases List.mem_cons.1 hh with rfl | hh
        · exact h1 h3
        · exact h2 ⟨q, hh, h3⟩
theorem iv_cov (h : Row on) (hn : 0 ≤ n) {s : Int} (hs : 0 ≤ s ∧ s < n) :
    ((∃ j, j % 2 = 0 ∧ pre on j ≤ s + f ∧ s + f < pre on (j + 1)) → cov (iv on f n) s = 1) ∧ ((¬ ∃ j, j % 2 = 0 ∧ pre on j ≤ s + f ∧ s + f < pre on (j + 1)) → cov (iv on f n) s = 0) := by
  have hc : cov (iv on f n) s = _ := cov_sorted _ s (ivTo_sorted (f := f) h hn _) (fun q hq => (ivTo_in h hn hq).2.1)
  rw [hc, ← iv_cover h hs]
  exact ⟨fun h => if_pos h, fun h => if_neg h⟩

/- Two lengths in turn. -/
theorem pre_pair (p q : Int) : ∀ i : Nat, pre [p, q] (2 * i) = i * (p + q) ∧ pre [p, q] (2 * i + 1) = i * (p + q) + p
  | 0 => by simp [pre]
  | i + 1 => by
    have h := (pre_pair p q i).2
    have e1 : pre [p, q] (2 * (i + 1)) = ((i + 1 : Nat) : Int) * (p + q) := by
      show pre [p, q] (2 * i + 1 + 1) = _
      have hm : (2 * i + 1) % 2 = 1 := by omega
      simp only [pre.eq_2, List.length_cons, List.length_nil]
      simp only [pre.eq_2, List.length_cons, List.length_nil] at h
      rw [h]
      simp [hm]; grind
    refine ⟨e1, ?_⟩
    show pre [p, q] (2 * (i + 1) + 1) = _
    have hm : (2 * (i + 1)) % 2 = 0 := by omega
    rw [pre.eq_2, e1]
    simp [hm]
theorem pair_cover {p q t : Int} (hp : 1 ≤ p) (hq : 1 ≤ q) (ht : 0 ≤ t) : (∃ j, j % 2 = 0 ∧ pre [p, q] j ≤ t ∧ t < pre [p, q] (j + 1)) ↔ t % (p + q) < p := by
  have h1 := Int.mul_ediv_add_emod t (p + q)
  have h2 := Int.emod_nonneg t (show p + q ≠ 0 by omega)
  have h3 := Int.emod_lt_of_pos t (show 0 < p + q by omega)
  constructor
  · rintro ⟨j, hj, h4, h5⟩
    obtain ⟨i, rfl⟩ : ∃ i, j = 2 * i := ⟨j / 2, by omega⟩
    rw [(pre_pair p q i).1] at h4
    rw [(pre_pair p q i).2] at h5
    have h6 : t % (p + q) = t - i * (p + q) := by
      have h7 : t = (t - i * (p + q)) + i * (p + q) := by omega
      have h8 : t % (p + q) = (t - i * (p + q)) % (p + q) := by
        conv => lhs; rw [h7]
        rw [Int.add_mul_emod_self_right]
      rw [h8]; exact Int.emod_eq_of_lt (by omega) (by omega)
    omega
  · intro h
    have h6 : 0 ≤ t / (p + q) := Int.ediv_nonneg ht (by omega)
    obtain ⟨i, hi⟩ : ∃ i : Nat, t / (p + q) = i := ⟨(t / (p + q)).toNat, by omega⟩
    rw [hi, Int.mul_comm] at h1
    exact ⟨2 * i, by omega, by rw [(pre_pair p q i).1]; omega, by rw [(pre_pair p q i).2]; omega⟩
/-- Either the one row covers a unit or the other, from its next length on. -/
theorem pair_either {p q t : Int} (hp : 1 ≤ p) (hq : 1 ≤ q) : t % (p + q) < p ↔ ¬ (t + q) % (q + p) < q := by
  have h2 := Int.emod_nonneg t (show p + q ≠ 0 by omega)
  have h3 := Int.emod_lt_of_pos t (show 0 < p + q by omega)
  have e : (t + q) % (q + p) = (t % (p + q) + q) % (p + q) := by rw [Int.add_comm q p, Int.emod_add_emod]
  rw [e]
  by_cases h : t % (p + q) < p
  · have : (t % (p + q) + q) % (p + q) = t % (p + q) + q := Int.emod_eq_of_lt (by omega) (by omega)
    rw [this]; omega
  · have : (t % (p + q) + q) % (p + q) = t % (p + q) - p := by
      rw [← Int.sub_emod_right, show t % (p + q) + q - (p + q) = t % (p + q) - p by omega]
      exact Int.emod_eq_of_lt (by omega) (by omega)
    rw [this]; omega
theorem row_pair {p q : Int} (hp : 1 ≤ p ∧ p ≤ 20) (hq : 1 ≤ q ∧ q ≤ 20) : Row [p, q] ∧ ∀ v ∈ [p, q], 1 ≤ v := by
  refine ⟨⟨?_, ?_, ?_⟩, ?_⟩
  · intro v hv; simp at hv; omega
  · intro v hv; simp at hv; omega
  · simp; omega
  · intro v hv; simp at hv; omega
/-- A whole round more or less says nothing. -/
theorem ivTo_round (h : Row on) (hp : ∀ v ∈ on, 1 ≤ v) (he : on.length % 2 = 0) (hf : 0 ≤ f) : ∀ k, ivTo on (f + on.sum) n (on.length + k) = ivTo on f n k
  | 0 => by
    rw [Nat.add_zero]
    show _ = []
    unfold ivTo
    rw [List.flatMap_eq_nil_iff]
    intro j hj
    rw [List.mem_range] at hj
    have h1 := h.mono (show j + 1 ≤ on.length by omega)
    rw [pre_len] at h1
    have h2 : pre on j + 1 ≤ pre on (j + 1) := by
      have hl : j % on.length < on.length := Nat.mod_lt _ h.len
      have := hp _ (List.getElem_mem hl)
      simp only [pre]
      rw [List.getD_eq_getElem?_getD, List.getElem?_eq_getElem hl]
      simp only [Option.getD_some]; omega
    unfold ivAt
    rw [if_neg (by omega)]
  | k + 1 => by
    rw [← Nat.add_assoc, ivTo_succ, ivTo_succ, ivTo_round h hp he hf k]
    congr 1
    have e1 := pre_round on k
    have e2 : pre on (on.length + k + 1) = on.sum + pre on (k + 1) := pre_round on (k + 1)
    unfold ivAt
    rw [e1, e2]
    have p : (on.length + k) % 2 = k % 2 := by omega
    have a1 : on.sum + pre on k - (f + on.sum) = pre on k - f := by omega
    have a2 : on.sum + pre on (k + 1) - (f + on.sum) = pre on (k + 1) - f := by omega
    rw [p, a1, a2]
theorem ivTo_past (h : Row on) {k : Nat} (hk : n ≤ pre on k - f) : ∀ d, ivTo on f n (k + d) = ivTo on f n k
  | 0 => rfl
  | d + 1 => by
    rw [← Nat.add_assoc, ivTo_succ, ivTo_past h hk d]
    have := h.mono (show k ≤ k + d by omega)
    unfold ivAt
    rw [if_neg (by omega), List.append_nil]
theorem ivTo_same (h : Row on) {k k' : Nat} (hk : n ≤ pre on k - f) (hk' : n ≤ pre on k' - f) : ivTo on f n k = ivTo on f n k' := by
  rcases Nat.le_total k k' with hl | hl
  · have := ivTo_past h hk (k' - k); rw [show k + (k' - k) = k' by omega] at this; exact this.symm
  · have := ivTo_past h hk' (k - k'); rw [show k' + (k - k') = k by omega] at this; exact this
theorem iv_round (h : Row on) (hp : ∀ v ∈ on, 1 ≤ v) (he : on.length % 2 = 0) (hf : 0 ≤ f) : iv on (f + on.sum) n = iv on f n := by
  have h1 := bnd_past h (f := f) (n := n)
  refine Eq.trans ?_ (ivTo_round h hp he hf (bnd on f n))
  refine ivTo_same h (bnd_past h) ?_
  rw [pre_round]; omega
theorem iv_few (h : Row on) (hp : ∀ v ∈ on, 1 ≤ v) (hn : 1 ≤ n) : ((iv on f n).length : Int) ≤ n := by
  have := ivTo_few (f := f) h hp hn (bnd on f n)
  unfold iv; omega
end

end Go.Proofs.Ytacolepcpbhceaa
