/- The plain side of Back: the turned contours' pieces; what they are for flat paths. -/
import Derived.Test.YtbpeoejjjllieaaPathP
namespace Go.Proofs.Ytbpeoejjjllieaa

/-- What Back returns. -/
def backL (l : List Sg) : List Sg := pathOf ((ctsL l).map turnC)

/-- A Move alone. -/
def bare (c : Ct) : Bool := c.es.isEmpty && !c.shut
/-- No contour but the last is a Move alone. -/
def ends : List Ct → Bool
  | [] => true
  | [_] => true
  | c :: d :: l => !bare c && ends (d :: l)

theorem mayFrom_23 : ∀ (r : List Sg), mayFrom 3 r = mayFrom 2 r
  | [] => rfl
  | s :: r => by
    simp only [mayFrom]
    have : rightB s 3 = rightB s 2 := by
      rw [Bool.eq_iff_iff, rightB_iff, rightB_iff]; simp
    rw [this]
theorem pieceB_sgE {e : Ed} (h : edOK e = true) : pieceB (sgE e) = true := by
  rw [edOK_iff] at h
  obtain ⟨x0, y0, bent, cx, cy, x1, y1⟩ := e
  simp only at h
  cases bent <;> simp [sgE, pieceB, co_iff] <;> omega
theorem sgE_kind (e : Ed) : (sgE e).kind = 3 ∨ (sgE e).kind = 2 := by unfold sgE; split <;> simp
theorem right_sgE {e : Ed} (h : edOK e = true) {a : Int} (h0 : a ≠ 0) (h4 : a ≠ 4) : rightB (sgE e) a = true := by
  rw [rightB_iff]
  refine ⟨pieceB_sgE h, .inr ⟨?_, h0, h4⟩⟩
  rcases sgE_kind e with k | k <;> rw [k] <;> decide
theorem mayFrom_es : ∀ (es : List Ed) (a : Int) (r : List Sg), (∀ e ∈ es, edOK e = true) → a ≠ 0 → a ≠ 4 → mayFrom a (es.map sgE ++ r) = mayFrom (if es.isEmpty then a else 2) r
  | [], a, r, _, _, _ => rfl
  | e :: es, a, r, h, h0, h4 => by
    rw [List.map_cons, List.cons_append, mayFrom, right_sgE (h e (by simp)) h0 h4, Bool.true_and]
    have h23 : ∀ m, mayFrom (sgE e).kind m = mayFrom 2 m := fun m => by
      rcases sgE_kind e with k | k <;> rw [k]
      exact mayFrom_23 m
    rw [h23, mayFrom_es es 2 r (fun d hd => h d (by simp [hd])) (by decide) (by decide)]
    cases es <;> simp
theorem right_move {x y : Int} (hx : co x = true) (hy : co y = true) {a : Int} : rightB ⟨1, x, y, 0, 0⟩ a = true ↔ a ≠ 1 := by
  rw [co_iff] at hx hy
  rw [rightB_iff]
  have : pieceB ⟨1, x, y, 0, 0⟩ = true := by simp [pieceB, co_iff]; omega
  simp [this]
theorem mayFrom_C {c : Ct} (h : GoodC c) (a : Int) (r : List Sg) : mayFrom a (pathC c ++ r) = true ↔ a ≠ 1 ∧ mayFrom (if c.shut then 4 else if c.es.isEmpty then 1 else 2) r = true := by
  obtain ⟨x, y, es, b⟩ := c
  obtain ⟨_, h2, h3, h4⟩ := h
  simp only at h2 h3 h4
  unfold pathC
  simp only
  rw [List.cons_append, mayFrom, Bool.and_eq_true, right_move h3 h4, List.append_assoc, mayFrom_es _ _ _ h2 (by simp) (by simp)]
  cases b
  · simp [clL]
  · have : ∀ k : Int, k ≠ 0 → k ≠ 4 → rightB ⟨4, 0, 0, 0, 0⟩ k = true := fun k h0 h4 => by
      rw [rightB_iff]; exact ⟨by decide, .inr ⟨by decide, h0, h4⟩⟩
    simp only [clL, if_true, List.cons_append, List.nil_append, mayFrom, Bool.and_eq_true]
    rw [this _ (by split <;> decide) (by split <;> decide)]
    simp
theorem mayFrom_pathOf : ∀ (cs : List Ct) (a : Int), (∀ c ∈ cs, GoodC c) → a ≠ 1 → (mayFrom a (pathOf cs) = true ↔ ends cs = true)
  | [], _, _, _ => by simp [pathOf, mayFrom, ends]
  | [c], a, h, ha => by
    have := mayFrom_C (h c (by simp)) a []
    rw [List.append_nil] at this
    have e : pathOf [c] = pathC c := by simp [pathOf]
    rw [e, this]
    simp [mayFrom, ends, ha]
  | c :: d :: l, a, h, ha => by
    have e : pathOf (c :: d :: l) = pathC c ++ pathOf (d :: l) := by simp [pathOf]
    rw [e, mayFrom_C (h c (by simp)) a]
    have hd : ∀ k, mayFrom k (pathOf (d :: l)) = true ↔ k ≠ 1 ∧ ends (d :: l) = true := fun k => by
      by_cases hk : k = 1
      · subst hk
        have e2 : pathOf (d :: l) = pathC d ++ pathOf l := by simp [pathOf]
        rw [e2, mayFrom_C (h d (by simp))]
        simp
      · rw [mayFrom_pathOf (d :: l) k (fun x hx => h x (by simp at hx ⊢; exact .inr hx)) hk]
        simp [hk]
    rw [hd]
    simp only [ends, bare, Bool.and_eq_true, Bool.not_eq_true', Bool.and_eq_false_iff]
    cases c.shut <;> cases c.es.isEmpty <;> simp [ha]
theorem bare_turn (c : Ct) : bare (turnC c) = bare c := by
  obtain ⟨x, y, es, b⟩ := c
  cases es <;> simp [bare, turnC]
theorem ends_map (f : Ct → Ct) (hf : ∀ c, bare (f c) = bare c) : ∀ cs, ends (cs.map f) = ends cs
  | [] => rfl
  | [_] => rfl
  | c :: d :: l => by
    have := ends_map f hf (d :: l)
    rw [List.map_cons] at this
    simp only [List.map_cons, ends, hf, this]
theorem pathC_turn_len (c : Ct) : (pathC (turnC c)).length = (pathC c).length := by simp [pathC, turnC]
theorem pathOf_turn_len (cs : List Ct) : (pathOf (cs.map turnC)).length = (pathOf cs).length := by
  induction cs with
  | nil => rfl
  | cons c cs ih =>
    simp only [pathOf, List.map_cons, List.flatMap_cons, List.length_append, pathC_turn_len] at *
    rw [ih]
theorem pathOf_take_le (cs : List Ct) (k : Nat) : (pathOf (cs.take k)).length ≤ (pathOf cs).length := by
  have : pathOf cs = pathOf (cs.take k) ++ pathOf (cs.drop k) := by
    unfold pathOf; rw [← List.flatMap_append, List.take_append_drop]
  rw [this, List.length_append]; omega
theorem pathOf_take_succ (cs : List Ct) (k : Nat) (h : k < cs.length) : pathOf (cs.take (k + 1)) = pathOf (cs.take k) ++ pathC cs[k] := by
  rw [List.take_succ_eq_append_getElem h, pathOf_snoc]

theorem ctsL_may {l : List Sg} (h : mayB l = true) : ctsL l = (ctTo l).1 := by simp [ctsL, h]
theorem ctsL_good (l : List Sg) : ∀ c ∈ ctsL l, GoodC c := by
  cases h : mayB l
  · intro c hc; simp [ctsL, h] at hc
  · rw [ctsL_may h]; exact (pathOf_ctTo h).2
theorem pathOf_ctsL {l : List Sg} (h : mayB l = true) : pathOf (ctsL l) = l := by rw [ctsL_may h]; exact (pathOf_ctTo h).1
theorem good_map {f : Ct → Ct} {cs : List Ct} (hf : ∀ c, GoodC c → GoodC (f c)) (h : ∀ c ∈ cs, GoodC c) : ∀ c ∈ cs.map f, GoodC c := by
  intro c hc
  rw [List.mem_map] at hc
  obtain ⟨d, hd, rfl⟩ := hc
  exact hf d (h d hd)
theorem backL_len_le (l : List Sg) : (backL l).length ≤ 300 := by
  unfold backL
  rw [pathOf_turn_len]
  cases h : mayB l
  · simp [ctsL, h, pathOf]
  · rw [pathOf_ctsL h]; exact (mayB_from h).2
theorem backL_len {l : List Sg} (h : mayB l = true) : (backL l).length = l.length := by
  unfold backL; rw [pathOf_turn_len, pathOf_ctsL h]
theorem mayB_pathOf {cs : List Ct} (h : ∀ c ∈ cs, GoodC c) : mayB (pathOf cs) = true ↔ (pathOf cs).length ≤ 300 ∧ ends cs = true := by
  unfold mayB
  rw [Bool.and_eq_true, decide_eq_true_eq, mayFrom_pathOf cs 0 h (by decide)]
theorem backL_may {l : List Sg} (h : mayB l = true) : mayB (backL l) = true := by
  have hg := ctsL_good l
  have h1 := h
  rw [← pathOf_ctsL h, mayB_pathOf hg] at h1
  unfold backL
  rw [mayB_pathOf (good_map (fun _ => GoodC.turn) hg), pathOf_turn_len, ends_map _ bare_turn]
  exact h1
/-- The contours of the pieces of good contours that make a valid path. -/
theorem ctsL_pathOf {cs : List Ct} (h : ∀ c ∈ cs, GoodC c) (hm : mayB (pathOf cs) = true) : ctsL (pathOf cs) = cs := by rw [ctsL_may hm, ctTo_pathOf h]
theorem ctsL_back {l : List Sg} (h : mayB l = true) : ctsL (backL l) = (ctsL l).map turnC := ctsL_pathOf (good_map (fun _ => GoodC.turn) (ctsL_good l)) (backL_may h)
theorem map_turn_turn {cs : List Ct} (h : ∀ c ∈ cs, GoodC c) : (cs.map turnC).map turnC = cs := by
  rw [List.map_map]
  conv => rhs; rw [← List.map_id cs]
  exact List.map_congr_left fun c hc => turn_turn (h c hc)
/-- Back twice. -/
theorem backL_back {l : List Sg} (h : mayB l = true) : backL (backL l) = l := by
  have : backL (backL l) = pathOf ((ctsL (backL l)).map turnC) := rfl
  rw [this, ctsL_back h, map_turn_turn (ctsL_good l), pathOf_ctsL h]

theorem flatL_back {l : List Sg} : flatL (backL l) = pathOf (((ctsL l).map flatC).map turnC) := by
  unfold flatL backL
  rw [flat_pathOf _ _ _ (good_map (fun _ => GoodC.turn) (ctsL_good l)), List.map_map, List.map_map]
  congr 1
  exact List.map_congr_left fun c hc => flat_turn (ctsL_good l c hc)
theorem flatL_cts {l : List Sg} (h : mayB l = true) : flatL l = pathOf ((ctsL l).map flatC) := by
  conv => lhs; rw [← pathOf_ctsL h]
  unfold flatL
  rw [flat_pathOf _ _ _ (ctsL_good l)]
theorem flat_back {l q r : List Sg} {e f : Int} (h : mayB l = true) (h1 : flatE (backL l) = (q, e)) (h2 : flatE l = (r, f)) : e = f ∧ q = backL r := by
  have hl : (flatL (backL l)).length = (flatL l).length := by rw [flatL_back, flatL_cts h, pathOf_turn_len]
  unfold flatE at h1 h2
  rw [h] at h2
  rw [backL_may h, hl] at h1
  simp only [Bool.true_eq_false, if_false] at h1 h2
  by_cases hov : 300 < (flatL l).length
  · rw [if_pos hov] at h1 h2
    injection h1 with a b; injection h2 with c d
    subst a; subst b; subst c; subst d
    exact ⟨rfl, rfl⟩
  · rw [if_neg hov] at h1 h2
    injection h1 with a b; injection h2 with c d
    subst a; subst b; subst c; subst d
    refine ⟨rfl, ?_⟩
    have hm := flatL_may h (by omega)
    have hgf := good_map (f := flatC) (fun _ => GoodC.flat) (ctsL_good l)
    have hc : ctsL (flatL l) = (ctsL l).map flatC := by
      rw [flatL_cts h] at hm ⊢
      exact ctsL_pathOf hgf hm
    unfold backL at *
    rw [hc]
    exact flatL_back

theorem cts_len (l : List Sg) : (ctsL l).length ≤ l.length := by
  unfold ctsL
  split
  · simp
  · exact ct_len l
theorem cts_es (l : List Sg) : ∀ c ∈ ctsL l, c.es.length ≤ l.length := by
  intro c hc
  unfold ctsL at hc
  split at hc
  · simp at hc
  · exact ct_es l c hc
theorem rev_take (es : List Ed) (j z : Nat) (h : z + 1 + j = es.length) (hz : z < es.length) :
    (((es.map flip).reverse.take (j + 1)).map sgE) = (((es.map flip).reverse.take j).map sgE) ++ [sgE (flip es[z])] := by
  rw [List.take_succ_eq_append_getElem (by simp; omega), List.map_append]
  congr 1
  simp only [List.map_cons, List.map_nil, List.getElem_reverse, List.getElem_map, List.length_map]
  congr 3
  congr 1
  omega
theorem turn_succ (cs : List Ct) (k : Nat) (h : k < cs.length) : pathOf ((cs.take (k + 1)).map turnC) = pathOf ((cs.take k).map turnC) ++ pathC (turnC cs[k]) := by
  rw [List.take_succ_eq_append_getElem h, List.map_append, List.map_singleton, pathOf_snoc]
theorem turn_take_le (cs : List Ct) (k : Nat) : (pathOf ((cs.take k).map turnC)).length ≤ (pathOf (cs.map turnC)).length := by
  rw [List.map_take]; exact pathOf_take_le _ _
theorem pathC_turn (c : Ct) : pathC (turnC c) = ⟨1, endX c.x c.es, endY c.y c.es, 0, 0⟩ :: (((c.es.map flip).reverse).map sgE ++ clL c.shut) := rfl
theorem endX_get (x : Int) (es : List Ed) (h : es.length - 1 < es.length) : endX x es = es[es.length - 1].x1 := by
  unfold endX; rw [List.getLast?_eq_getElem?, List.getElem?_eq_getElem h]; rfl
theorem endY_get (y : Int) (es : List Ed) (h : es.length - 1 < es.length) : endY y es = es[es.length - 1].y1 := by
  unfold endY; rw [List.getLast?_eq_getElem?, List.getElem?_eq_getElem h]; rfl

end Go.Proofs.Ytbpeoejjjllieaa
