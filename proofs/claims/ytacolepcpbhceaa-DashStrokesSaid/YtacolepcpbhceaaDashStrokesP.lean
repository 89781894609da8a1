/- The plain law of DashStrokes: a level piece's stroke with butt ends is what is drawn of it and what is drawn between. -/
import Derived.Test.YtacolepcpbhceaaAllP
import Derived.Test.YtacolepcpbhceaaStrokePiecesP
namespace Go.Proofs.Ytacolepcpbhceaa

def edI (q : Int × Int) : Ed := ⟨q.1, 0, false, 0, 0, q.2, 0⟩
def ctI (q : Int × Int) : Ct := ⟨q.1, 0, [edI q], false⟩
theorem sgI_path (l : List (Int × Int)) : l.flatMap sgI = pathOf (l.map ctI) := by
  unfold pathOf
  rw [List.flatMap_map]
  rfl
theorem ctI_good {q : Int × Int} (h1 : co q.1 = true) (h2 : co q.2 = true) : GoodC (ctI q) := by
  have h0 : co 0 = true := by decide
  refine ⟨⟨rfl, rfl, trivial⟩, ?_, h1, h0⟩
  intro e he
  simp only [ctI, List.mem_singleton] at he
  subst he
  simp [edOK, edI, nearB, h1, h2, h0]
theorem ends_ctI : ∀ l : List (Int × Int), ends (l.map ctI) = true
  | [] => rfl
  | [_] => rfl
  | a :: b :: l => by
    have h := ends_ctI (b :: l)
    simp only [List.map_cons] at h ⊢
    simp only [ends, Bool.and_eq_true, h, and_true]
    rfl
section
variable {l : List (Int × Int)} {n : Int}
theorem ctI_goods (hn : n ≤ 8191) (h : ∀ q ∈ l, 0 ≤ q.1 ∧ q.1 ≤ q.2 ∧ q.2 ≤ n) : ∀ c ∈ l.map ctI, GoodC c := by
  intro c hc
  rw [List.mem_map] at hc
  obtain ⟨q, hq, rfl⟩ := hc
  have := h q hq
  exact ctI_good (co_iff.2 (by omega)) (co_iff.2 (by omega))
theorem sgI_may (hn : n ≤ 8191) (h : ∀ q ∈ l, 0 ≤ q.1 ∧ q.1 ≤ q.2 ∧ q.2 ≤ n) (hl : l.length ≤ 150) : mayB (l.flatMap sgI) = true := by
  rw [sgI_path, mayB_pathOf (ctI_goods hn h)]
  refine ⟨?_, ends_ctI l⟩
  rw [← sgI_path, sgI_len]; omega
theorem sgI_nobow (l : List (Int × Int)) : ∀ s ∈ l.flatMap sgI, s.kind ≠ 3 := by
  intro s hs
  rw [List.mem_flatMap] at hs
  obtain ⟨q, _, hs⟩ := hs
  simp only [sgI, lvlP, List.mem_cons, List.not_mem_nil, or_false] at hs
  rcases hs with rfl | rfl <;> simp
theorem sgI_cov (hn : n ≤ 8191) (h : ∀ q ∈ l, 0 ≤ q.1 ∧ q.1 ≤ q.2 ∧ q.2 ≤ n) (hl : l.length ≤ 150) {w x y : Int} (hw : 0 ≤ w) :
    covL (l.flatMap sgI) ⟨w, 0, 0⟩ x y = true ↔ (-w ≤ 2 * y ∧ 2 * y ≤ w) ∧ ∃ q ∈ l, q.1 < q.2 ∧ q.1 ≤ x ∧ x ≤ q.2 := by
  have hg := ctI_goods hn h
  have hc : ctsL (l.flatMap sgI) = l.map ctI := by
    have hm := sgI_may hn h hl
    rw [sgI_path] at hm ⊢
    exact ctsL_pathOf hg hm
  have hone : ∀ q ∈ l, CovC (ctI q) ⟨w, 0, 0⟩ x y ↔ (-w ≤ 2 * y ∧ 2 * y ≤ w) ∧ q.1 < q.2 ∧ q.1 ≤ x ∧ x ≤ q.2 := by
    intro q hq
    obtain ⟨h1, h2, h3⟩ := h q hq
    rw [cov_edges (hg _ (List.mem_map_of_mem hq)) (by simp [ctI, edI]) (.inr ⟨rfl, rfl⟩)]
    have ha : allE (ctI q) = [edI q] := rfl
    rw [ha]
    simp only [List.mem_singleton, exists_eq_left]
    rw [one_of (by have := (hg _ (List.mem_map_of_mem hq)).2.1; exact this _ (by simp [ctI])) rfl (.inr ⟨rfl, rfl⟩)]
    simp only [show ¬ ((0 : Int) = 1) by decide, false_and, or_false]
    by_cases he : q.1 = q.2
    · have : moved (edI q) = false := by simp [moved, edI, he]
      rw [this]; simp; omega
    · have hm : moved (edI q) = true := by simp [moved, edI, he]
      rw [hm]
      obtain ⟨a, _⟩ := lev_cov (w := w) (o := y) (a := x - q.1) (D := q.2 - q.1) (L := sqE (edI q)) (u := armU (edI q) x y) (k := armK (edI q) x y) hw (by omega) (by unfold sqE edI; simp) (by unfold armU edI; simp) (by unfold armK edI; simp; grind)
      unfold OnP
      simp only [true_and]
      rw [a]; omega
  rw [covL_iff, hc]
  constructor
  · rintro ⟨c, hcm, hcv⟩
    rw [List.mem_map] at hcm
    obtain ⟨q, hq, rfl⟩ := hcm
    obtain ⟨a, b⟩ := (hone q hq).1 hcv
    exact ⟨a, q, hq, b⟩
  · rintro ⟨a, q, hq, b⟩
    exact ⟨_, List.mem_map_of_mem hq, (hone q hq).2 ⟨a, b⟩⟩
end
theorem levelL_is (n : Int) : levelL n = [(0, n)].flatMap sgI := rfl
theorem row_pair' {p q : Int} (hp : 1 ≤ p ∧ p ≤ 32767) (hq : 1 ≤ q ∧ q ≤ 32767) : Row [p, q] ∧ ∀ v ∈ [p, q], 1 ≤ v := by
  refine ⟨⟨?_, ?_, ?_⟩, ?_⟩
  · intro v hv; simp at hv; omega
  · intro v hv; simp at hv; omega
  · simp; omega
  · intro v hv; simp at hv; omega
theorem strokes_law {n p q f w u v : Int} (hn : 1 ≤ n ∧ n ≤ 200) (hp : 1 ≤ p ∧ p ≤ 30) (hq : 1 ≤ q ∧ q ≤ 30) (hf : 0 ≤ f) (hw : 0 ≤ w)
    (h1 : (iv [p, q] f n).length ≤ 150) (h2 : (iv [q, p] (f + q) n).length ≤ 150) :
    covL (levelL n) ⟨w, 0, 0⟩ u v = (covL ((iv [p, q] f n).flatMap sgI) ⟨w, 0, 0⟩ u v || covL ((iv [q, p] (f + q) n).flatMap sgI) ⟨w, 0, 0⟩ u v) := by
  have r1 := (row_pair' (p := p) (q := q) (by omega) (by omega)).1
  have r2 := (row_pair' (p := q) (q := p) (by omega) (by omega)).1
  have i1 := iv_in (f := f) r1 (n := n) (by omega)
  have i2 := iv_in (f := f + q) r2 (n := n) (by omega)
  rw [Bool.eq_iff_iff, Bool.or_eq_true, levelL_is, sgI_cov (n := n) (by omega) (by simp; omega) (by simp) hw, sgI_cov (by omega) i1 h1 hw, sgI_cov (by omega) i2 h2 hw]
  have key : ∀ s, 0 ≤ s ∧ s < n → (∃ q' ∈ iv [p, q] f n, q'.1 ≤ s ∧ s < q'.2) ∨ (∃ q' ∈ iv [q, p] (f + q) n, q'.1 ≤ s ∧ s < q'.2) := by
    intro s hs
    rw [iv_cover r1 hs, iv_cover r2 hs, pair_cover hp.1 hq.1 (by omega), pair_cover hq.1 hp.1 (by omega)]
    have he := pair_either (t := s + f) hp.1 hq.1
    have e : s + (f + q) = s + f + q := by omega
    rw [e]
    by_cases h : (s + f) % (p + q) < p
    · exact .inl h
    · exact .inr (Decidable.byContradiction fun hh => h (he.2 hh))
  constructor
  · rintro ⟨hv, q', hq', h3, h4, h5⟩
    rw [List.mem_singleton] at hq'
    subst hq'
    simp only at h3 h4 h5
    obtain ⟨s, hs, hu⟩ : ∃ s, (0 ≤ s ∧ s < n) ∧ s ≤ u ∧ u ≤ s + 1 := by
      by_cases hun : u < n
      · exact ⟨u, ⟨h4, hun⟩, by omega, by omega⟩
      · exact ⟨n - 1, by omega, by omega, by omega⟩
    rcases key s hs with ⟨r, hr, a, b⟩ | ⟨r, hr, a, b⟩
    · exact .inl ⟨hv, r, hr, by omega, by omega, by omega⟩
    · exact .inr ⟨hv, r, hr, by omega, by omega, by omega⟩
  · rintro (⟨hv, r, hr, a, b, c⟩ | ⟨hv, r, hr, a, b, c⟩)
    · have := i1 r hr
      exact ⟨hv, (0, n), by simp, by simp only; omega, by simp only; omega, by simp only; omega⟩
    · have := i2 r hr
      exact ⟨hv, (0, n), by simp, by simp only; omega, by simp only; omega, by simp only; omega⟩
end Go.Proofs.Ytacolepcpbhceaa
