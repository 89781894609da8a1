/- The plain law of DashFlat: what is drawn begins and ends in a narrow stroke of the path. -/
import Derived.Test.YtacolepcpbhceaaDashMadeP
import Derived.Test.YtacolepcpbhceaaStrokePiecesP
namespace Go.Proofs.Ytacolepcpbhceaa

theorem mulf_bd {e d n p : Int} (he : -n ≤ e ∧ e ≤ n) (hd : -p ≤ d ∧ d ≤ p) : -(n * p) ≤ e * d ∧ e * d ≤ n * p := by
  have a := Int.mul_nonneg (show 0 ≤ n - e by omega) (show 0 ≤ p + d by omega)
  have b := Int.mul_nonneg (show 0 ≤ n + e by omega) (show 0 ≤ p - d by omega)
  have c := Int.mul_nonneg (show 0 ≤ n - e by omega) (show 0 ≤ p - d by omega)
  have f := Int.mul_nonneg (show 0 ≤ n + e by omega) (show 0 ≤ p + d by omega)
  have e1 : (n - e) * (p + d) = n * p + n * d - e * p - e * d := by grind
  have e2 : (n + e) * (p - d) = n * p - n * d + e * p - e * d := by grind
  have e3 : (n - e) * (p - d) = n * p - n * d - e * p + e * d := by grind
  have e4 : (n + e) * (p + d) = n * p + n * d + e * p + e * d := by grind
  omega
theorem half_bd {a n e : Int} (hn : 1 ≤ n) (he : -n ≤ e ∧ e ≤ n) (h : 2 * (n * a) = e) : a = 0 := by
  rcases Int.lt_trichotomy a 0 with h0 | h0 | h0
  · have := Int.mul_le_mul_of_nonneg_left (show a ≤ -1 by omega) (show 0 ≤ n by omega); omega
  · exact h0
  · have := Int.mul_le_mul_of_nonneg_left (show 1 ≤ a by omega) (show 0 ≤ n by omega); omega
/-- Two parts of a length: what is left of one whose rounding reaches beyond it. -/
theorem reachF {n D L k S : Int} (hn : 1 ≤ n) (hnL : n * n ≤ L) (hD0 : 0 ≤ D) (hD : D * D ≤ 2 * L) (hk : 0 ≤ k) (hS : -(n * D) ≤ S ∧ S ≤ n * D) (h : 2 * (k * L) < S ∨ 2 * (k * L) < -S) : k = 0 := by
  apply Decidable.byContradiction
  intro hk0
  have hL : 1 ≤ L := by have := Int.mul_le_mul hn hn (by omega) (show 0 ≤ n by omega); omega
  have h1 : L ≤ k * L := by have := Int.mul_le_mul_of_nonneg_right (show 1 ≤ k by omega) (show 0 ≤ L by omega); omega
  have h2 : 2 * L ≤ n * D := by omega
  have h3 := Int.mul_le_mul h2 h2 (by omega) (by omega)
  have h4 : n * D * (n * D) = (n * n) * (D * D) := by grind
  have hDD : 0 ≤ D * D := Int.mul_nonneg hD0 hD0
  have h5 := Int.mul_le_mul hnL hD hDD (by omega)
  have h6 : 2 * L * (2 * L) = 4 * (L * L) := by grind
  have h7 : L * (2 * L) = 2 * (L * L) := by grind
  have h8 := Int.mul_le_mul hL hL (by omega) (by omega : (0:Int) ≤ L)
  omega
theorem near_core {a b dx dy n k L : Int} (hn : 1 ≤ n) (hk : 0 ≤ k ∧ k ≤ n) (hL : L = dx * dx + dy * dy) (hnL : n * n ≤ L)
    (ha : -n ≤ 2 * (n * a - dx * k) ∧ 2 * (n * a - dx * k) ≤ n) (hb : -n ≤ 2 * (n * b - dy * k) ∧ 2 * (n * b - dy * k) ≤ n) :
    4 * ((a * dy - b * dx) * (a * dy - b * dx)) ≤ 16 * L ∧ 0 ≤ a * dx + b * dy ∧ a * dx + b * dy ≤ L := by
  obtain ⟨ex, hex⟩ : ∃ ex, ex = 2 * (n * a - dx * k) := ⟨_, rfl⟩
  obtain ⟨ey, hey⟩ : ∃ ey, ey = 2 * (n * b - dy * k) := ⟨_, rfl⟩
  rw [← hex] at ha
  rw [← hey] at hb
  obtain ⟨p, hp0, hp, hpp⟩ : ∃ p, 0 ≤ p ∧ (-p ≤ dx ∧ dx ≤ p) ∧ p * p = dx * dx := by
    rcases Int.le_total 0 dx with h | h
    · exact ⟨dx, h, by omega, rfl⟩
    · exact ⟨-dx, by omega, by omega, by rw [Int.neg_mul_neg]⟩
  obtain ⟨q, hq0, hq, hqq⟩ : ∃ q, 0 ≤ q ∧ (-q ≤ dy ∧ dy ≤ q) ∧ q * q = dy * dy := by
    rcases Int.le_total 0 dy with h | h
    · exact ⟨dy, h, by omega, rfl⟩
    · exact ⟨-dy, by omega, by omega, by rw [Int.neg_mul_neg]⟩
  have hLpos : 1 ≤ L := by have := Int.mul_le_mul hn hn (by omega) (show 0 ≤ n by omega); omega
  have hD2 : (p + q) * (p + q) ≤ 2 * L := by
    have h1 := sq_nonneg (p - q)
    have e1 : (p - q) * (p - q) = p * p + q * q - 2 * (p * q) := by grind
    have e2 : (p + q) * (p + q) = p * p + q * q + 2 * (p * q) := by grind
    omega
  have e0 : n * (p + q) = n * p + n * q := Int.mul_add ..
  have b1 := mulf_bd ha hp
  have b2 := mulf_bd hb hq
  have b3 := mulf_bd ha hq
  have b4 := mulf_bd hb hp
  refine ⟨?_, ?_⟩
  · obtain ⟨K, hK⟩ : ∃ K, K = a * dy - b * dx := ⟨_, rfl⟩
    rw [← hK]
    have e1 : n * (2 * K) = ex * dy - ey * dx := by rw [hK, hex, hey]; grind
    have h1 : -(p + q) ≤ 2 * K ∧ 2 * K ≤ p + q := by
      constructor
      · apply Int.le_of_mul_le_mul_left (a := n) _ (by omega)
        have : n * -(p + q) = -(n * (p + q)) := by grind
        omega
      · apply Int.le_of_mul_le_mul_left (a := n) _ (by omega)
        omega
    have h2 := (sq_bd h1).2
    have e2 : 2 * K * (2 * K) = 4 * (K * K) := by grind
    omega
  · obtain ⟨U, hU⟩ : ∃ U, U = a * dx + b * dy := ⟨_, rfl⟩
    rw [← hU]
    obtain ⟨S, hS⟩ : ∃ S, S = ex * dx + ey * dy := ⟨_, rfl⟩
    have e1 : 2 * (n * U) = 2 * (k * L) + S := by rw [hU, hS, hex, hey, hL]; grind
    have hSb : -(n * (p + q)) ≤ S ∧ S ≤ n * (p + q) := by omega
    constructor
    · apply Decidable.byContradiction
      intro h0
      have h1 := Int.mul_le_mul_of_nonneg_left (show U ≤ -1 by omega) (show 0 ≤ n by omega)
      have h2 := reachF hn hnL (by omega) hD2 hk.1 hSb (.inr (by omega))
      subst h2
      have a0 : a = 0 := half_bd hn ha (by rw [hex]; grind)
      have b0 : b = 0 := half_bd hn hb (by rw [hey]; grind)
      subst a0; subst b0
      simp at hU; omega
    · apply Decidable.byContradiction
      intro h0
      have h1 := Int.mul_le_mul_of_nonneg_left (show L + 1 ≤ U by omega) (show 0 ≤ n by omega)
      have e2 : n * (L + 1) = n * L + n := by grind
      have e3 : (n - k) * L = n * L - k * L := Int.sub_mul ..
      have h2 := reachF (k := n - k) hn hnL (by omega) hD2 (by omega) hSb (.inl (by omega))
      have h3 : k = n := by omega
      subst h3
      have a0 : a - dx = 0 := half_bd hn ha (by rw [hex]; grind)
      have b0 : b - dy = 0 := half_bd hn hb (by rw [hey]; grind)
      have a1 : a = dx := by omega
      have b1 : b = dy := by omega
      rw [a1, b1] at hU; omega
/-- A place on a piece lies in the piece's stroke. -/
theorem at_on {e : Ed} (h : edOK e = true) (hl : 1 ≤ lenE e) {k : Int} (hk : 0 ≤ k ∧ k ≤ lenE e) : OnP e 4 (atE e k).1 (atE e k).2 := by
  have hb := sqE_bd h
  have hs := flr_spec (n := sqE e) (by omega) (by omega)
  have r1 := rnd_bd (e.x0 * lenE e + (e.x1 - e.x0) * k) (lenE e) (by omega)
  have r2 := rnd_bd (e.y0 * lenE e + (e.y1 - e.y0) * k) (lenE e) (by omega)
  unfold OnP armK armU
  simp only [atE]
  obtain ⟨X, hX⟩ : ∃ X, X = rnd (e.x0 * lenE e + (e.x1 - e.x0) * k) (lenE e) := ⟨_, rfl⟩
  obtain ⟨Y, hY⟩ : ∃ Y, Y = rnd (e.y0 * lenE e + (e.y1 - e.y0) * k) (lenE e) := ⟨_, rfl⟩
  rw [← hX] at r1 ⊢
  rw [← hY] at r2 ⊢
  have c1 : lenE e * (X - e.x0) = lenE e * X - e.x0 * lenE e := by grind
  have c2 : lenE e * (Y - e.y0) = lenE e * Y - e.y0 * lenE e := by grind
  obtain ⟨q1, q2, q3⟩ := near_core (a := X - e.x0) (b := Y - e.y0) (dx := e.x1 - e.x0) (dy := e.y1 - e.y0) (n := lenE e) (k := k) (L := sqE e) hl hk rfl hs.2.2.1 (by omega) (by omega)
  exact ⟨by omega, q2, q3⟩
theorem atW_is : ∀ {ps : List Ed} {s : Int}, ps ≠ [] → 0 ≤ s → s ≤ sumL ps → ∃ e ∈ ps, ∃ k, (0 ≤ k ∧ k ≤ lenE e) ∧ atW ps s = atE e k
  | [], _, h, _, _ => absurd rfl h
  | e :: l, s, _, h0, h1 => by
    unfold atW
    by_cases hs : s ≤ lenE e
    · rw [if_pos hs]; exact ⟨e, by simp, s, ⟨h0, hs⟩, rfl⟩
    · rw [if_neg hs]
      simp only [sumL] at h1
      obtain ⟨d, hd, k, hk, he⟩ := atW_is (ps := l) (s := s - lenE e) (by rintro rfl; simp only [sumL] at h1; omega) (by omega) (by omega)
      exact ⟨d, by simp [hd], k, hk, he⟩
/-- The narrow stroke. -/
def s4 : Sy := ⟨4, 1, 1⟩
theorem place_in {l : List Sg} (hb : ∀ s ∈ l, s.kind ≠ 3) {c : Ct} (hc : c ∈ ctsL l) (hne : piecesC c ≠ []) {s : Int} (h0 : 0 ≤ s) (h1 : s ≤ sumL (piecesC c)) :
    covL l s4 (atW (piecesC c) s).1 (atW (piecesC c) s).2 = true := by
  have hg := ctsL_good l c hc
  have hst := ctsL_straight hb c hc
  obtain ⟨e, he, k, hk, ha⟩ := atW_is hne h0 h1
  obtain ⟨g1, g2⟩ := pieces_len hg hst e he
  obtain ⟨q1, q2⟩ := piecesC_ok hg hst e he
  rw [covL_iff]
  refine ⟨c, hc, (cov_edges hg hst (.inl ⟨rfl, rfl⟩) _ _).2 ⟨e, ((pieces_sub e).1 he).1, (one_of g1 q1.1 (.inl ⟨rfl, rfl⟩) _ _).2 (.inl ⟨q2, ?_⟩)⟩⟩
  rw [ha]; exact at_on g1 g2 hk
/-- What DashFlat says of each contour that is drawn. -/
theorem flat_law {on : List Int} (hr : Row on) (f : Int) {l : List Sg} (hm : mayB l = true) (hb : ∀ s ∈ l, s.kind ≠ 3) : ∀ d ∈ cutCts on f l,
    GoodC d ∧ d.es ≠ [] ∧ d.shut = false ∧ inL l s4 d.x d.y = true ∧ inL l s4 (endX d.x d.es) (endY d.y d.es) = true := by
  intro d hd
  obtain ⟨g, c, hc, a, b, ha, hbb, hne, rfl⟩ := cutCts_facts hr f hb d hd
  obtain ⟨_, p2, p3⟩ := partC_bare (piecesC c) a b
  have hp := pieces_len (ctsL_good l c hc) (ctsL_straight hb c hc)
  have e1 : endX (partC (piecesC c) a b).x (partC (piecesC c) a b).es = (atW (piecesC c) b).1 ∧ endY (partC (piecesC c) a b).y (partC (piecesC c) a b).es = (atW (piecesC c) b).2 := linesE_end ..
  have c1 := in_page.1 (at_in (page_ps hp) hne ha.1 ha.2)
  have c2 := in_page.1 (at_in (page_ps hp) hne hbb.1 hbb.2)
  refine ⟨g, p3, p2, ?_, ?_⟩
  · show inL l s4 (atW (piecesC c) a).1 (atW (piecesC c) a).2 = true
    rw [inL_is hm hb (by decide) c1.1 c1.2]
    exact place_in hb hc hne ha.1 ha.2
  · rw [e1.1, e1.2, inL_is hm hb (by decide) c2.1 c2.2]
    exact place_in hb hc hne hbb.1 hbb.2
end Go.Proofs.Ytacolepcpbhceaa
