/- Where a closed path begins makes nothing for its stroke: plainly. -/
import Derived.Test.YtkkjbchgeafgkaaStrokePiecesP
namespace Go.Proofs.Ytkkjbchgeafgkaa

/-- A closed path through points. -/
def lineQ (q : Int × Int) : Sg := ⟨2, q.1, q.2, 0, 0⟩
def edgQ (p q : Int × Int) : Ed := ⟨p.1, p.2, false, 0, 0, q.1, q.2⟩
def openQ (Q : Nat → Int × Int) (n : Nat) : List Sg := ⟨1, (Q 0).1, (Q 0).2, 0, 0⟩ :: (List.range n).map fun i => lineQ (Q (i + 1))
def loopQ (Q : Nat → Int × Int) (n : Nat) : List Sg := openQ Q n ++ [⟨4, 0, 0, 0, 0⟩]
def loopC (Q : Nat → Int × Int) (n : Nat) : Ct := ⟨(Q 0).1, (Q 0).2, (List.range n).map fun i => edgQ (Q i) (Q (i + 1)), true⟩
/-- The points are on the page. -/
def OnQ (Q : Nat → Int × Int) (n : Nat) : Prop := ∀ i, i ≤ n → co (Q i).1 = true ∧ co (Q i).2 = true
theorem loop_chain (Q : Nat → Int × Int) : ∀ n, chain (Q 0).1 (Q 0).2 ((List.range n).map fun i => edgQ (Q i) (Q (i + 1))) ∧
    endX (Q 0).1 ((List.range n).map fun i => edgQ (Q i) (Q (i + 1))) = (Q n).1 ∧ endY (Q 0).2 ((List.range n).map fun i => edgQ (Q i) (Q (i + 1))) = (Q n).2
  | 0 => ⟨trivial, rfl, rfl⟩
  | n + 1 => by
    obtain ⟨a, b, c⟩ := loop_chain Q n
    rw [List.range_succ, List.map_append, List.map_singleton]
    exact ⟨chain_snoc _ _ _ _ a b.symm c.symm, endX_snoc .., endY_snoc ..⟩
theorem edgQ_ok {p q : Int × Int} (hp : co p.1 = true ∧ co p.2 = true) (hq : co q.1 = true ∧ co q.2 = true) : edOK (edgQ p q) = true := by
  have h0 : co 0 = true := by decide
  simp [edOK, edgQ, nearB, hp.1, hp.2, hq.1, hq.2, h0]
theorem loopC_good {Q : Nat → Int × Int} {n : Nat} (h : OnQ Q n) : GoodC (loopC Q n) := by
  refine ⟨(loop_chain Q n).1, ?_, (h 0 (by omega)).1, (h 0 (by omega)).2⟩
  intro e he
  simp only [loopC, List.mem_map, List.mem_range] at he
  obtain ⟨i, hi, rfl⟩ := he
  exact edgQ_ok (h i (by omega)) (h (i + 1) (by omega))
theorem loopQ_is (Q : Nat → Int × Int) (n : Nat) : loopQ Q n = pathOf [loopC Q n] := by
  simp only [loopQ, openQ, pathOf, List.flatMap_cons, List.flatMap_nil, List.append_nil, pathC, loopC, List.cons_append, List.map_map, clL, if_true]
  rfl
theorem loopQ_may {Q : Nat → Int × Int} {n : Nat} (h : OnQ Q n) (hn : n ≤ 100) : mayB (loopQ Q n) = true := by
  have hg : ∀ c ∈ [loopC Q n], GoodC c := fun c hc => by rw [List.mem_singleton] at hc; subst hc; exact loopC_good h
  rw [loopQ_is, mayB_pathOf hg]
  refine ⟨?_, by simp [ends]⟩
  rw [← loopQ_is]; simp [loopQ, openQ]; omega
theorem loopQ_nobow (Q : Nat → Int × Int) (n : Nat) : ∀ s ∈ loopQ Q n, s.kind ≠ 3 := by
  intro s hs
  simp only [loopQ, openQ, List.mem_append, List.mem_cons, List.mem_map, List.not_mem_nil, or_false] at hs
  rcases hs with (rfl | ⟨i, _, rfl⟩) | rfl <;> simp [lineQ]
theorem loopQ_cts {Q : Nat → Int × Int} {n : Nat} (h : OnQ Q n) (hn : n ≤ 100) : ctsL (loopQ Q n) = [loopC Q n] := by
  have hg : ∀ c ∈ [loopC Q n], GoodC c := fun c hc => by rw [List.mem_singleton] at hc; subst hc; exact loopC_good h
  have hm := loopQ_may h hn
  rw [loopQ_is] at hm ⊢
  exact ctsL_pathOf hg hm
/-- The next point's number. -/
def nxt (n i : Nat) : Nat := if i = n then 0 else i + 1
theorem loop_all (Q : Nat → Int × Int) (n : Nat) (e : Ed) : e ∈ allE (loopC Q n) ↔ ∃ i, i ≤ n ∧ e = edgQ (Q i) (Q (nxt n i)) := by
  have hb : backE (loopC Q n) = edgQ (Q n) (Q 0) := by
    unfold backE
    simp only [loopC]
    rw [(loop_chain Q n).2.1, (loop_chain Q n).2.2]; rfl
  unfold allE
  rw [hb]
  simp only [loopC, if_true, List.mem_append, List.mem_map, List.mem_range, List.mem_singleton]
  constructor
  · rintro (⟨i, hi, rfl⟩ | rfl)
    · exact ⟨i, by omega, by unfold nxt; rw [if_neg (by omega)]⟩
    · exact ⟨n, Nat.le_refl _, by unfold nxt; rw [if_pos rfl]⟩
  · rintro ⟨i, hi, rfl⟩
    unfold nxt
    by_cases h : i = n
    · subst h; rw [if_pos rfl]; exact .inr rfl
    · rw [if_neg h]; exact .inl ⟨i, by omega, rfl⟩
/-- What a closed path covers. -/
theorem loop_cov {Q : Nat → Int × Int} {n : Nat} (h : OnQ Q n) (hn : n ≤ 100) (s : Sy) (x y : Int) : covL (loopQ Q n) s x y = true ↔
    ((∀ i, i ≤ n → moved (edgQ (Q i) (Q (nxt n i))) = false) ∧ DotP (loopC Q n) s x y) ∨
    ∃ i, i ≤ n ∧ moved (edgQ (Q i) (Q (nxt n i))) = true ∧ (OnP (edgQ (Q i) (Q (nxt n i))) s.wide x y ∨ (s.join = 1 ∧ DiscP (Q i).1 (Q i).2 s.wide x y)) := by
  rw [covL_iff, loopQ_cts h hn]
  have h1 : (∃ c ∈ [loopC Q n], CovC c s x y) ↔ CovC (loopC Q n) s x y := by simp
  rw [h1, cov_shut rfl]
  have hnil : piecesC (loopC Q n) = [] ↔ ∀ i, i ≤ n → moved (edgQ (Q i) (Q (nxt n i))) = false := by
    rw [List.eq_nil_iff_forall_not_mem]
    constructor
    · intro hh i hi
      have := hh (edgQ (Q i) (Q (nxt n i)))
      rw [pieces_sub, loop_all] at this
      cases hm : moved (edgQ (Q i) (Q (nxt n i)))
      · rfl
      · exact absurd ⟨⟨i, hi, rfl⟩, hm⟩ this
    · intro hh e he
      rw [pieces_sub, loop_all] at he
      obtain ⟨⟨i, hi, rfl⟩, hm⟩ := he
      rw [hh i hi] at hm; cases hm
  rw [hnil]
  constructor
  · rintro (h | ⟨e, he, hc⟩)
    · exact .inl h
    · rw [pieces_sub, loop_all] at he
      obtain ⟨⟨i, hi, rfl⟩, hm⟩ := he
      exact .inr ⟨i, hi, hm, hc⟩
  · rintro (h | ⟨i, hi, hm, hc⟩)
    · exact .inl h
    · exact .inr ⟨_, (pieces_sub _).2 ⟨(loop_all ..).2 ⟨i, hi, rfl⟩, hm⟩, hc⟩
/-- The points from another one on. -/
def rotQ (Q : Nat → Int × Int) (n b : Nat) : Nat → Int × Int := fun i => Q ((b + i) % (n + 1))
theorem rot_next (Q : Nat → Int × Int) (n b : Nat) (i : Nat) (hi : i ≤ n) : rotQ Q n b (nxt n i) = Q (nxt n ((b + i) % (n + 1))) := by
  unfold rotQ nxt
  congr 1
  have h1 := Nat.mod_lt (b + i) (show 0 < n + 1 by omega)
  have hd := Nat.div_add_mod (b + i) (n + 1)
  by_cases h : i = n
  · subst h
    rw [if_pos rfl]
    by_cases h2 : (b + i) % (i + 1) = i
    · rw [if_pos h2]
      have : b + 0 = (i + 1) * ((b + i) / (i + 1)) := by omega
      rw [this, Nat.mul_mod_right]
    · rw [if_neg h2]
      have h3 : (b + i + 1) % (i + 1) = b % (i + 1) := by rw [Nat.add_assoc, Nat.add_mod_right]
      have h4 : (b + i + 1) % (i + 1) = (b + i) % (i + 1) + 1 := by
        have h5 : b + i + 1 = (i + 1) * ((b + i) / (i + 1)) + ((b + i) % (i + 1) + 1) := by omega
        conv => lhs; rw [h5]
        rw [Nat.mul_add_mod, Nat.mod_eq_of_lt (by omega)]
      rw [Nat.add_zero, ← h3, h4]
  · rw [if_neg h]
    by_cases h2 : (b + i) % (n + 1) = n
    · rw [if_pos h2]
      have : b + (i + 1) = (n + 1) * ((b + i) / (n + 1) + 1) := by rw [Nat.mul_add]; omega
      rw [this, Nat.mul_mod_right]
    · rw [if_neg h2]
      rw [← Nat.add_assoc, Nat.add_mod (b + i) 1, Nat.mod_eq_of_lt (show 1 < n + 1 by omega), Nat.mod_eq_of_lt (by omega)]
theorem rot_all (n b j : Nat) (hj : j ≤ n) : ∃ i, i ≤ n ∧ (b + i) % (n + 1) = j := by
  have h1 := Nat.mod_lt b (show 0 < n + 1 by omega)
  have hd := Nat.div_add_mod b (n + 1)
  by_cases h : b % (n + 1) ≤ j
  · refine ⟨j - b % (n + 1), by omega, ?_⟩
    rw [Nat.add_mod, Nat.mod_eq_of_lt (show j - b % (n + 1) < n + 1 by omega), Nat.mod_eq_of_lt (by omega)]; omega
  · refine ⟨j + (n + 1) - b % (n + 1), by omega, ?_⟩
    rw [Nat.add_mod, Nat.mod_eq_of_lt (show j + (n + 1) - b % (n + 1) < n + 1 by omega)]
    rw [show b % (n + 1) + (j + (n + 1) - b % (n + 1)) = j + (n + 1) by omega, Nat.add_mod_right, Nat.mod_eq_of_lt (by omega)]
theorem rot_on {Q : Nat → Int × Int} {n : Nat} (h : OnQ Q n) (b : Nat) : OnQ (rotQ Q n b) n := fun i _ => h _ (by have := Nat.mod_lt (b + i) (show 0 < n + 1 by omega); omega)
/-- All points alike. -/
theorem all_same {Q : Nat → Int × Int} {n : Nat} (h : ∀ i, i ≤ n → moved (edgQ (Q i) (Q (nxt n i))) = false) : ∀ i, i ≤ n → Q i = Q 0
  | 0, _ => rfl
  | i + 1, hi => by
    have h1 := all_same h i (by omega)
    have h2 := h i (by omega)
    unfold nxt at h2
    rw [if_neg (by omega)] at h2
    simp only [moved, edgQ, Bool.or_eq_false_iff, Bool.not_eq_false', beq_iff_eq] at h2
    rw [← h1]
    exact Prod.ext h2.1.symm h2.2.symm
theorem rot_dir {Q : Nat → Int × Int} {n : Nat} (h : OnQ Q n) (hn : n ≤ 100) (b : Nat) (s : Sy) (x y : Int) : covL (loopQ (rotQ Q n b) n) s x y = true ↔ covL (loopQ Q n) s x y = true := by
  rw [loop_cov h hn, loop_cov (rot_on h b) hn]
  have hlt : ∀ i, (b + i) % (n + 1) ≤ n := fun i => by have := Nat.mod_lt (b + i) (show 0 < n + 1 by omega); omega
  have he : ∀ i, i ≤ n → edgQ (rotQ Q n b i) (rotQ Q n b (nxt n i)) = edgQ (Q ((b + i) % (n + 1))) (Q (nxt n ((b + i) % (n + 1)))) := fun i hi => by rw [rot_next Q n b i hi]; rfl
  have hnil : (∀ i, i ≤ n → moved (edgQ (rotQ Q n b i) (rotQ Q n b (nxt n i))) = false) ↔ ∀ i, i ≤ n → moved (edgQ (Q i) (Q (nxt n i))) = false := by
    constructor
    · intro hh j hj
      obtain ⟨i, hi, rfl⟩ := rot_all n b j hj
      rw [← he i hi]; exact hh i hi
    · intro hh i hi
      rw [he i hi]; exact hh _ (hlt i)
  rw [hnil]
  constructor
  · rintro (⟨h1, h2⟩ | ⟨i, hi, h1, h2⟩)
    · refine .inl ⟨h1, ?_⟩
      have : rotQ Q n b 0 = Q 0 := all_same h1 _ (hlt 0)
      unfold DotP loopC at h2 ⊢
      simp only [this] at h2
      exact h2
    · rw [he i hi] at h1 h2
      exact .inr ⟨_, hlt i, h1, h2⟩
  · rintro (⟨h1, h2⟩ | ⟨j, hj, h1, h2⟩)
    · refine .inl ⟨h1, ?_⟩
      have : rotQ Q n b 0 = Q 0 := all_same h1 _ (hlt 0)
      unfold DotP loopC at h2 ⊢
      simp only [this]
      exact h2
    · obtain ⟨i, hi, rfl⟩ := rot_all n b j hj
      refine .inr ⟨i, hi, ?_⟩
      rw [he i hi]
      exact ⟨h1, h2⟩
/-- Where a closed path begins makes nothing. -/
theorem rot_cov {Q : Nat → Int × Int} {n : Nat} (h : OnQ Q n) (hn : n ≤ 100) (b : Nat) (s : Sy) (x y : Int) : covL (loopQ (rotQ Q n b) n) s x y = covL (loopQ Q n) s x y := by
  rw [Bool.eq_iff_iff]; exact rot_dir h hn b s x y
/-- A dot; a Move alone. -/
def dotL (a b : Int) : List Sg := [⟨1, a, b, 0, 0⟩, ⟨4, 0, 0, 0, 0⟩]
theorem dotL_is {a b : Int} : dotL a b = loopQ (fun _ => (a, b)) 0 := rfl
theorem dot_cov {a b : Int} (ha : co a = true) (hb : co b = true) (s : Sy) (x y : Int) : covL (dotL a b) s x y = true ↔ (s.cap = 1 ∧ DiscP a b s.wide x y) ∨ (s.cap = 2 ∧ SquareP a b s.wide x y) := by
  rw [dotL_is, loop_cov (n := 0) (fun _ _ => ⟨ha, hb⟩) (by omega)]
  have hm : ∀ i, moved (edgQ ((fun _ : Nat => (a, b)) i) ((fun _ : Nat => (a, b)) (nxt 0 i))) = false := fun i => by simp [moved, edgQ]
  constructor
  · rintro (⟨_, h⟩ | ⟨i, _, h, _⟩)
    · exact h
    · simp [moved, edgQ] at h
  · intro h; exact .inl ⟨fun i _ => hm i, h⟩
theorem move_none {a b : Int} (s : Sy) (x y : Int) : inL [⟨1, a, b, 0, 0⟩] s x y = false := by
  have : covL [⟨1, a, b, 0, 0⟩] s x y = false := by
    unfold covL shL ctsL
    split
    · rfl
    · rfl
  unfold inL; rw [this]; simp
end Go.Proofs.Ytkkjbchgeafgkaa
