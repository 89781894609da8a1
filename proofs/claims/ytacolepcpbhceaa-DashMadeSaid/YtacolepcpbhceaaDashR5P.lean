/- The reference's drawn, told plainly: a place where two pieces meet. -/
import Derived.Test.YtacolepcpbhceaaDashR4
import Derived.Test.YtacolepcpbhceaaDashSqP
namespace Go.Proofs.Ytacolepcpbhceaa

theorem filter_chain : ∀ (es : List Ed) (x y : Int), chain x y es → chain x y (es.filter moved) ∧ endX x (es.filter moved) = endX x es ∧ endY y (es.filter moved) = endY y es
  | [], x, y, _ => ⟨trivial, rfl, rfl⟩
  | e :: es, x, y, h => by
    obtain ⟨hx, hy, hc⟩ : e.x0 = x ∧ e.y0 = y ∧ chain e.x1 e.y1 es := h
    obtain ⟨h1, h2, h3⟩ := filter_chain es e.x1 e.y1 hc
    by_cases hm : moved e = true
    · rw [List.filter_cons_of_pos hm]
      exact ⟨⟨hx, hy, h1⟩, by rw [endX_cons, endX_cons, h2], by rw [endY_cons, endY_cons, h3]⟩
    · rw [List.filter_cons_of_neg hm]
      have he : e.x1 = x ∧ e.y1 = y := by
        simp [moved] at hm; omega
      rw [he.1, he.2] at h1
      rw [he.1] at h2
      rw [he.2] at h3
      exact ⟨h1, by rw [endX_cons, h2, he.1], by rw [endY_cons, h3, he.2]⟩
theorem pieces_chain {c : Ct} (h : GoodC c) : chain c.x c.y (piecesC c) := by
  obtain ⟨h1, h2, h3⟩ := filter_chain c.es c.x c.y h.1
  unfold piecesC
  split
  · exact chain_app _ _ _ _ h1 ⟨by rw [h2]; rfl, by rw [h3]; rfl, trivial⟩
  · rw [List.append_nil]; exact h1
/-- Each piece begins where the one before it ends. -/
def Joined (ps : List Ed) : Prop := ∀ (k : Nat) (h : k + 1 < ps.length), ps[k + 1].x0 = (ps[k]'(Nat.lt_of_succ_lt h)).x1 ∧ ps[k + 1].y0 = (ps[k]'(Nat.lt_of_succ_lt h)).y1
theorem chain_joined {ps : List Ed} {x y : Int} (h : chain x y ps) : Joined ps := by
  intro k hk
  obtain ⟨h1, h2⟩ := chain_at2 ps x y (k + 1) hk h
  rw [List.take_succ_eq_append_getElem (by omega), endX_snoc] at h1
  rw [List.take_succ_eq_append_getElem (by omega), endY_snoc] at h2
  exact ⟨h1, h2⟩
theorem pieces_joined {c : Ct} (h : GoodC c) : Joined (piecesC c) := chain_joined (pieces_chain h)
/-- A place at a piece's beginning is the end of the piece before. -/
theorem atW_on {ps : List Ed} (hj : Joined ps) (hp : ∀ e ∈ ps, 1 ≤ lenE e) (k : Nat) (s : Int) (hk : k < ps.length) (h0 : sumL (ps.take k) ≤ s) (h1 : s ≤ sumL (ps.take (k + 1))) :
    atE ps[k] (s - sumL (ps.take k)) = atW ps s := by
  by_cases hc : k = 0 ∨ sumL (ps.take k) < s
  · exact (atW_at ps k s hk (fun h => by omega) h1).symm
  · obtain ⟨j, rfl⟩ : ∃ j, k = j + 1 := ⟨k - 1, by omega⟩
    have hs : s = sumL (ps.take (j + 1)) := by omega
    have hjl : j < ps.length := by omega
    have ht := sumL_take ps j hjl
    have hl := hp ps[j] (List.getElem_mem hjl)
    rw [atW_at ps j s hjl (fun _ => by omega) (by omega)]
    have e1 : s - sumL (ps.take (j + 1)) = 0 := by omega
    have e2 : s - sumL (ps.take j) = lenE ps[j] := by omega
    rw [e1, e2, (atE_ends hl).2, (atE_ends (hp ps[j + 1] (List.getElem_mem hk))).1, (hj j hk).1, (hj j hk).2]
/-- From where on nothing ends before a place. -/
theorem innW_from (ps : List Ed) (k : Nat) (a b : Int) (hb : b ≤ sumL (ps.take (k + 1)) ∨ ps.length ≤ k) : innW ps a b = innW (ps.take k) a b := by
  have hall : ∀ d, k + d ≤ ps.length → innW (ps.take (k + d)) a b = innW (ps.take k) a b := by
    intro d
    induction d with
    | zero => intro _; rfl
    | succ d ih =>
      intro hd
      have hlt : k + d < ps.length := by omega
      rw [← Nat.add_assoc, innW_take ps (k + d) hlt, ih (by omega)]
      have hm : sumL (ps.take (k + 1)) ≤ sumL (ps.take (k + d + 1)) := by
        have := sumL_take_le (ps.take (k + d + 1)) (k + 1)
        rwa [List.take_take, Nat.min_eq_left (by omega)] at this
      have : innE (sumL (ps.take (k + d + 1))) ps[k + d] a b = [] := by
        unfold innE; rw [if_neg (by omega)]
      rw [this, List.append_nil]
  by_cases hk : k ≤ ps.length
  · have := hall (ps.length - k) (by omega)
    rwa [show k + (ps.length - k) = ps.length by omega, List.take_length] at this
  · rw [List.take_of_length_le (by omega)]
theorem innW_before (ps : List Ed) (a b : Int) : ∀ k, k ≤ ps.length → sumL (ps.take k) ≤ a → innW (ps.take k) a b = []
  | 0, _, _ => by simp [innW, innF]
  | k + 1, hk, ha => by
    have ht := sumL_take ps k hk
    have := lenE_nonneg ps[k]
    rw [innW_take ps k hk, innW_before ps a b k (by omega) (by omega)]
    unfold innE; rw [if_neg (by omega)]; rfl

end Go.Proofs.Ytacolepcpbhceaa
