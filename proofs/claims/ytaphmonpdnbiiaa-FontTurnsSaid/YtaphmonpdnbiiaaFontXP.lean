/- Outlines of fonts by numbers: parts, and what becomes of them when all is moved or made larger, plainly. -/
import Derived.Test.YtaphmonpdnbiiaaMFp
namespace Go.Proofs.Ytaphmonpdnbiiaa

/-- The matrix that changes nothing. -/
theorem ow_oneF {F : Fo} {k : Int} (h : MadeF F) (hk : 1 ≤ k ∧ k ≤ 3) (hm : F.m = scaleM k) {q : Int} (hq : Bd 4000 q) : OWOK F k 1 0 0 1 0 0 q := by
  refine ⟨h, hm, hk, ⟨?_, ?_, ?_, ?_, ?_, ?_⟩, ?_, fun p hp => ⟨?_, ?_, ?_, ?_, ?_, ?_⟩⟩ <;> unfold Bd at * <;> (try simp) <;> omega
theorem lastK_app (a : List Sg) {x : List Sg} (hx : x ≠ []) : lastK (a ++ x) = lastK x := by
  unfold lastK
  rw [List.getLast?_append]
  cases h : x.getLast? with
  | none => rw [List.getLast?_eq_none_iff] at h; exact absurd h hx
  | some y => rfl
theorem jn_ne (l : List Sg) {d : List Sg} (hd : d ≠ []) : jn l d = (if lastK l = 1 then l.dropLast else l) ++ d := by unfold jn; simp [hd]
theorem jn_assoc (l x y : List Sg) : jn (jn l x) y = jn l (jn x y) := by
  by_cases hx : x = []
  · subst hx; rw [jn_nil, nil_jn]
  · by_cases hy : y = []
    · subst hy; rw [jn_nil, jn_nil]
    · have hxy : jn x y ≠ [] := by unfold jn; simp [hy]
      have e1 := jn_ne l hx
      have e2 := jn_ne l hxy
      rw [e1, e2]
      generalize (if lastK l = 1 then l.dropLast else l) = l'
      unfold jn
      rw [lastK_app l' hx]
      by_cases hk : lastK x = 1
      · simp only [hk, hy, ne_eq, not_false_eq_true, and_self, if_true, true_and]
        rw [List.dropLast_append_of_ne_nil hx, List.append_assoc]
      · simp only [hk, false_and, if_false, List.append_assoc]
/-- What stands ahead stays ahead. -/
theorem outW_from (F : Fo) (k a b c d e f q : Int) : ∀ (s : List Nat) (p : Int) (l : List Sg), outW F k a b c d e f q s p l = (jn l (outW F k a b c d e f q s p []).1, (outW F k a b c d e f q s p []).2)
  | [], p, l => by simp only [outW, jn_nil]
  | ch :: s, p, l => by
    rw [outW, outW, outW_from F k a b c d e f q s _ (jn l _), outW_from F k a b c d e f q s _ (jn [] _), nil_jn]
    simp only [jn_assoc]
/-- How much nearer the second part stands. -/
def kernJ (F : Fo) : List Nat → List Nat → Int
  | [], _ => 0
  | _, [] => 0
  | s, d :: _ => kernF F (s.getLastD 0) d
theorem outW_app (F : Fo) (k a b c d e f q : Int) : ∀ (s t : List Nat) (p : Int) (l : List Sg),
    outW F k a b c d e f q (s ++ t) p l = outW F k a b c d e f q t ((outW F k a b c d e f q s p l).2 + k * kernJ F s t) (outW F k a b c d e f q s p l).1
  | [], t, p, l => by simp [outW, kernJ]
  | [ch], t, p, l => by
    simp only [List.cons_append, List.nil_append, outW]
    have : p + k * stepF F ch t = p + k * stepF F ch [] + k * kernJ F [ch] t := by
      unfold stepF kernJ
      cases t with
      | nil => simp
      | cons d t => simp only [List.getLastD, List.getLast?_singleton]; grind
    rw [this]
  | ch :: ch2 :: s, t, p, l => by
    have ih := outW_app F k a b c d e f q (ch2 :: s) t
    rw [List.cons_append, outW, outW, ih]
    have h1 : stepF F ch (ch2 :: s ++ t) = stepF F ch (ch2 :: s) := rfl
    have h2 : kernJ F (ch :: ch2 :: s) t = kernJ F (ch2 :: s) t := by
      cases t with
      | nil => rfl
      | cons d t => simp [kernJ]
    rw [h1, h2]
theorem jn_map {g : Sg → Sg} (hg : ∀ s, (g s).kind = s.kind) (l d : List Sg) : jn (l.map g) (d.map g) = (jn l d).map g := by
  have hl : lastK (l.map g) = lastK l := by
    unfold lastK
    rw [List.getLast?_map, Option.map_map]
    congr 2
    funext s; exact hg s
  have hd : (d.map g ≠ []) ↔ d ≠ [] := by simp
  unfold jn
  rw [hl]
  by_cases h : lastK l = 1 ∧ d ≠ []
  · rw [if_pos h, if_pos ⟨h.1, hd.2 h.2⟩, List.map_append, List.map_dropLast]
  · rw [if_neg h, if_neg (fun h' => h ⟨h'.1, hd.1 h'.2⟩), List.map_append]
/-- Two matrices, two beginnings: what the one draws is what the other draws, changed by g. -/
theorem outW_rel {F : Fo} (hF : MadeF F) {k a b c d e f q a' b' c' d' e' f' q' δ : Int} {g : Sg → Sg} (hg : ∀ s, (g s).kind = s.kind)
    (hr : ∀ (p : Int) (s : Sg), pieceB s = true → affS (k * a') (k * b') (k * c') (k * d') ((p + δ) * a' + q' * c' + e') ((p + δ) * b' + q' * d' + f') s = g (affS (k * a) (k * b) (k * c) (k * d) (p * a + q * c + e) (p * b + q * d + f) s)) :
    ∀ (s : List Nat) (p : Int) (l : List Sg), (∀ ch ∈ s, ch < 3) → outW F k a' b' c' d' e' f' q' s (p + δ) (l.map g) = ((outW F k a b c d e f q s p l).1.map g, (outW F k a b c d e f q s p l).2 + δ) := by
  intro s
  induction s with
  | nil => intro p l _; rfl
  | cons ch s ih =>
    intro p l hs
    obtain ⟨L, wd, h1, h2, h3, h4⟩ := hF.run (hs ch (by simp))
    rw [outW, outW, h4]
    simp only
    have hm : L.map (affS (k * a') (k * b') (k * c') (k * d') ((p + δ) * a' + q' * c' + e') ((p + δ) * b' + q' * d' + f')) = (L.map (affS (k * a) (k * b) (k * c) (k * d) (p * a + q * c + e) (p * b + q * d + f))).map g := by
      rw [List.map_map]
      apply List.map_congr_left
      intro t ht
      exact hr p t (pieces_of L 0 h1.1 t ht)
    have hp : p + δ + k * stepF F ch s = p + k * stepF F ch s + δ := by omega
    rw [hm, jn_map hg, hp]
    exact ih _ _ (fun x hx => hs x (by simp [hx]))
/-- Outlines may be paths, are short, and do not lead far. -/
theorem outW_ok {F : Fo} {k a b c d e f q : Int} (h : OWOK F k a b c d e f q) : ∀ (s : List Nat) (p : Int) (l : List Sg) (B : Int), (∀ ch ∈ s, ch < 3) → Bd B p → B + 84 * s.length ≤ 1000 → mayB l = true → l.length + 6 * s.length ≤ 300 →
    mayB (outW F k a b c d e f q s p l).1 = true ∧ (outW F k a b c d e f q s p l).1.length ≤ l.length + 6 * s.length ∧ Bd (B + 84 * s.length) (outW F k a b c d e f q s p l).2 := by
  intro s
  induction s with
  | nil => intro p l B _ hp _ hl _; exact ⟨hl, by simp [outW], by unfold Bd at *; simp [outW]; omega⟩
  | cons ch s ih =>
    intro p l B hs hp hB hl hn
    simp only [List.length_cons] at hB hn ⊢
    have hc := hs ch (by simp)
    obtain ⟨L, wd, r1, r2, r3, r4, r5, r6, r7, r8, r9⟩ := one_whole_step h hc p (by unfold Bd at *; omega) hl (by omega)
    have hkz := kz_bd h.hk (step_bd h.hF hc s)
    rw [outW, r1]
    simp only
    obtain ⟨i1, i2, i3⟩ := ih (p + k * stepF F ch s) _ (B + 84) (fun x hx => hs x (by simp [hx])) (by unfold Bd at *; omega) (by omega) r8 (by omega)
    exact ⟨i1, by omega, by unfold Bd at *; omega⟩
end Go.Proofs.Ytaphmonpdnbiiaa
