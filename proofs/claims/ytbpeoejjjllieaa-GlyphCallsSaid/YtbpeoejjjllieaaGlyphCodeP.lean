/- The plain side of glyph.Code: what is coded draws the path that it was. -/
import Derived.Test.YtbpeoejjjllieaaGlyphP
namespace Go.Proofs.Ytbpeoejjjllieaa

def putG (v : Int) : List Nat :=
  if -107 ≤ v ∧ v ≤ 107 then [(v + 139).toNat] else if 108 ≤ v ∧ v ≤ 1131 then [(247 + (v - 108) / 256).toNat, ((v - 108) % 256).toNat]
  else if -1131 ≤ v ∧ v ≤ -108 then [(251 + (-v - 108) / 256).toNat, ((-v - 108) % 256).toNat] else [255, ((v / 256) % 256).toNat, (v % 256).toNat]
theorem putG_num {v : Int} (hv : -32768 ≤ v ∧ v ≤ 32767) (r : List Nat) : numG (putG v ++ r) = some (v, (putG v).length) := by
  unfold putG
  by_cases h1 : -107 ≤ v ∧ v ≤ 107
  · rw [if_pos h1]
    simp only [numG, List.cons_append, List.nil_append]
    rw [if_pos (by omega)]
    congr 2; omega
  · rw [if_neg h1]
    by_cases h2 : 108 ≤ v ∧ v ≤ 1131
    · rw [if_pos h2]
      simp only [numG, List.cons_append, List.nil_append]
      rw [if_neg (by omega), if_neg (by omega), if_pos (by omega)]
      congr 2; omega
    · rw [if_neg h2]
      by_cases h3 : -1131 ≤ v ∧ v ≤ -108
      · rw [if_pos h3]
        simp only [numG, List.cons_append, List.nil_append]
        rw [if_neg (by omega), if_neg (by omega), if_neg (by omega)]
        congr 2; omega
      · rw [if_neg h3]
        simp only [numG, List.cons_append, List.nil_append]
        rw [if_neg (by omega), if_pos trivial]
        have e1 : (((v / 256 % 256).toNat : Nat) : Int) = v / 256 % 256 := by omega
        have e2 : (((v % 256).toNat : Nat) : Int) = v % 256 := by omega
        have e3 : i16 (((v / 256 % 256).toNat : Nat) * 256 + ((v % 256).toNat : Nat)) = v := by
          rw [e1, e2]; unfold i16; split <;> omega
        rw [e3]; rfl
theorem putG_head (v : Int) : ∃ b t, putG v = b :: t ∧ 32 ≤ b := by
  unfold putG
  split
  · exact ⟨_, _, rfl, by omega⟩
  · split
    · exact ⟨_, _, rfl, by omega⟩
    · split
      · exact ⟨_, _, rfl, by omega⟩
      · exact ⟨_, _, rfl, by omega⟩
theorem putG_byte (v : Int) : ∀ b ∈ putG v, b < 256 := by
  intro b hb
  unfold putG at hb
  split at hb
  · simp at hb; omega
  · split at hb
    · simp at hb; omega
    · split at hb
      · simp at hb; omega
      · simp at hb; omega
/-- A number that is put waits. -/
theorem run_put {np : Nat} {deeper : Nat → GM → GR} {top : Bool} {v : Int} (hv : -32768 ≤ v ∧ v ≤ 32767) (s : List Nat) (M : GM) : runS np deeper top (putG v ++ s) M = pushG M v (runS np deeper top s) := by
  have hn := putG_num hv s
  obtain ⟨b, t, he, hb⟩ := putG_head v
  rw [he] at hn ⊢
  rw [List.cons_append] at hn ⊢
  rw [runS_num _ hb, hn]
  simp only
  rw [← List.cons_append, List.drop_left]
theorem push_few {M : GM} {v : Int} {k : GM → GR} (h : M.wait.length < 24) : pushG M v k = k { M with wait := M.wait ++ [v] } := by
  unfold pushG; rw [if_neg (by omega)]
/-- A path's bytes, from a point on, the contour's beginning known. -/
def bodyG : Int → Int → Int → Int → List Sg → List Nat
  | _, _, _, _, [] => []
  | x, y, bx, by_, s :: l =>
    if s.kind = 4 then 7 :: bodyG bx by_ bx by_ l
    else if s.kind = 1 then putG (s.x - x) ++ (putG (s.y - y) ++ 2 :: bodyG s.x s.y s.x s.y l)
    else if s.kind = 2 then putG (s.x - x) ++ (putG (s.y - y) ++ 3 :: bodyG s.x s.y bx by_ l)
    else putG (s.cx - x) ++ (putG (s.cy - y) ++ (putG (s.x - x) ++ (putG (s.y - y) ++ 4 :: bodyG s.x s.y bx by_ l)))
def codeS (l : List Sg) (wide : Int) : List Nat := 0 :: (putG wide ++ 1 :: (bodyG 0 0 0 0 l ++ [10]))
def codeG (l : List Sg) (wide : Int) : List Nat × Int :=
  if mayB l = false ∨ wide < 0 ∨ 8191 < wide then ([], 1) else if 600 < (codeS l wide).length then ([], 5) else (codeS l wide, 0)

theorem may_pre {pre : List Sg} {s : Sg} (h : mayB (pre ++ [s]) = true) : mayB pre = true ∧ rightB s (lastK pre) = true ∧ pre.length < 300 := by
  obtain ⟨h1, h2⟩ := mayB_from h
  rw [mayFrom_snoc, Bool.and_eq_true] at h1
  rw [List.length_append, List.length_singleton] at h2
  exact ⟨by unfold mayB; simp [h1.1]; omega, h1.2, by omega⟩
theorem pt_snoc {pre : List Sg} {s : Sg} (h : mayB (pre ++ [s]) = true) : ptL (pre ++ [s]) = if s.kind = 4 then ((lastMv (pre ++ [s])).1, (lastMv (pre ++ [s])).2, true) else (s.x, s.y, true) := by
  unfold ptL
  rw [if_neg (by rw [h]; simp)]
  simp [lastK, lastX, lastY]
theorem mv_snoc (pre : List Sg) (s : Sg) : lastMv (pre ++ [s]) = if s.kind = 1 then (s.x, s.y) else lastMv pre := by
  unfold lastMv
  rw [List.reverse_append, List.reverse_singleton, List.singleton_append, List.find?_cons]
  by_cases hk : s.kind = 1
  · simp [hk]
  · have hb : (s.kind == 1) = false := by simpa using hk
    rw [if_neg hk]; simp only [hb]
section
variable {pre : List Sg} {s : Sg} {M : GM}
theorem long_one (h : pre.length < 300) (s : Sg) : longL pre [s] = (pre ++ [s], 0) := longL_ok (by simp; omega)
theorem step_move (hl : M.l = pre) (h : mayB (pre ++ [s]) = true) (hk : s.kind = 1) : moveG M (s.x - M.x) (s.y - M.y) = .ok { M with l := pre ++ [s], x := s.x, y := s.y } := by
  obtain ⟨h1, h2, h3⟩ := may_pre h
  obtain ⟨hp, hr⟩ := rightB_iff.1 h2
  obtain ⟨c1, c2, _, _⟩ := pieceB_co hp
  have hs : s = ⟨1, s.x, s.y, 0, 0⟩ := by
    obtain ⟨k, a, b, c, d⟩ := s
    simp only at hk; subst hk
    simp [pieceB] at hp
    simp [hp]
  have hlk : lastK pre ≠ 1 := by
    rcases hr with ⟨_, h⟩ | ⟨h, _⟩
    · exact h
    · exact absurd hk h
  have e1 : M.x + (s.x - M.x) = s.x := by omega
  have e2 : M.y + (s.y - M.y) = s.y := by omega
  unfold moveG
  rw [hl, e1, e2]
  have hst : startL pre s.x s.y = (pre ++ [s], 0) := by
    unfold startL
    rw [if_neg (by rw [h1]; simp), if_neg (by simp [nearB, c1, c2]), if_neg hlk, ← hs]
    exact long_one h3 s
  rw [hst]
  unfold takeG
  rw [pt_snoc h, if_neg (by omega : ¬ s.kind = 4)]
  simp
theorem on_snoc (h : mayB (pre ++ [s]) = true) (hk : s.kind = 2 ∨ s.kind = 3) : onL pre s = (pre ++ [s], 0) := by
  obtain ⟨h1, h2, h3⟩ := may_pre h
  obtain ⟨hp, hr⟩ := rightB_iff.1 h2
  obtain ⟨c1, c2, c3, c4⟩ := pieceB_co hp
  have hlk : lastK pre ≠ 0 ∧ lastK pre ≠ 4 := by
    rcases hr with ⟨h, _⟩ | ⟨_, h⟩
    · omega
    · exact h
  have hne : pre ≠ [] := by rintro rfl; exact hlk.1 rfl
  unfold onL
  rw [if_neg (by rw [h1]; simp), if_neg hne, if_neg (by simp [nearB, c1, c2, c3, c4]), if_neg hlk.2]
  exact long_one h3 s
theorem step_line (hl : M.l = pre) (h : mayB (pre ++ [s]) = true) (hk : s.kind = 2) : lineG M (s.x - M.x) (s.y - M.y) = .ok { M with l := pre ++ [s], x := s.x, y := s.y } := by
  obtain ⟨_, h2, _⟩ := may_pre h
  obtain ⟨hp, _⟩ := rightB_iff.1 h2
  have hs : s = ⟨2, s.x, s.y, 0, 0⟩ := by
    obtain ⟨k, a, b, c, d⟩ := s
    simp only at hk; subst hk
    simp [pieceB] at hp
    simp [hp]
  have e1 : M.x + (s.x - M.x) = s.x := by omega
  have e2 : M.y + (s.y - M.y) = s.y := by omega
  unfold lineG
  rw [hl, e1, e2, ← hs, on_snoc h (.inl hk)]
  unfold takeG
  rw [pt_snoc h, if_neg (by omega : ¬ s.kind = 4)]
  simp
theorem step_bow (hl : M.l = pre) (h : mayB (pre ++ [s]) = true) (hk : s.kind = 3) : bowG M (s.cx - M.x) (s.cy - M.y) (s.x - M.x) (s.y - M.y) = .ok { M with l := pre ++ [s], x := s.x, y := s.y } := by
  have hs : s = ⟨3, s.x, s.y, s.cx, s.cy⟩ := by
    obtain ⟨k, a, b, c, d⟩ := s
    simp only at hk; subst hk; rfl
  have e1 : M.x + (s.x - M.x) = s.x := by omega
  have e2 : M.y + (s.y - M.y) = s.y := by omega
  have e3 : M.x + (s.cx - M.x) = s.cx := by omega
  have e4 : M.y + (s.cy - M.y) = s.cy := by omega
  unfold bowG
  rw [hl, e1, e2, e3, e4, ← hs, on_snoc h (.inr hk)]
  unfold takeG
  rw [pt_snoc h, if_neg (by omega : ¬ s.kind = 4)]
  simp
theorem step_shut (hl : M.l = pre) (h : mayB (pre ++ [s]) = true) (hk : s.kind = 4) : shutG M = .ok { M with l := pre ++ [s], x := (lastMv pre).1, y := (lastMv pre).2 } := by
  obtain ⟨h1, h2, h3⟩ := may_pre h
  obtain ⟨hp, hr⟩ := rightB_iff.1 h2
  have hs : s = ⟨4, 0, 0, 0, 0⟩ := by
    obtain ⟨k, a, b, c, d⟩ := s
    simp only at hk; subst hk
    simp [pieceB] at hp
    simp [hp]
  have hlk : lastK pre ≠ 0 ∧ lastK pre ≠ 4 := by
    rcases hr with ⟨h, _⟩ | ⟨_, h⟩
    · omega
    · exact h
  have hne : pre ≠ [] := by rintro rfl; exact hlk.1 rfl
  unfold shutG
  rw [hl]
  have hst : shutL pre = (pre ++ [s], 0) := by
    unfold shutL
    rw [if_neg (by rw [h1]; simp), if_neg (by simp [hne, hlk.2]), ← hs]
    exact long_one h3 s
  rw [hst]
  unfold takeG
  rw [pt_snoc h, if_pos hk, mv_snoc, if_neg (by omega : ¬ s.kind = 1)]
  simp
end
theorem mayFrom_pref : ∀ (l m : List Sg) (a : Int), mayFrom a (l ++ m) = true → mayFrom a l = true
  | [], _, _, _ => rfl
  | s :: l, m, a, h => by
    rw [List.cons_append] at h
    simp only [mayFrom, Bool.and_eq_true] at h ⊢
    exact ⟨h.1, mayFrom_pref l m s.kind h.2⟩
theorem may_pref {l m : List Sg} (h : mayB (l ++ m) = true) : mayB l = true := by
  obtain ⟨h1, h2⟩ := mayB_from h
  rw [List.length_append] at h2
  unfold mayB
  rw [mayFrom_pref l m 0 h1]
  simp; omega
theorem draw_is {c : Nat} {t : Int} {M : GM} (ht : takesG c = some t) (h0 : 0 ≤ t) (hl : (M.wait.length : Int) = t) : drawG c M = drawnG (opG c { M with wait := [] } M.wait) := by
  unfold drawG
  rw [ht]
  simp only
  rw [if_neg (by omega), if_neg (by omega)]
/-- An operator, its numbers waiting. -/
theorem run_oper {np : Nat} {deeper : Nat → GM → GR} {c : Nat} {t : Int} {M M2 : GM} (s : List Nat) (hc : c < 32) (h8 : c ≠ 8) (h9 : c ≠ 9) (ht : takesG c = some t) (h0 : 0 ≤ t) (hl : (M.wait.length : Int) = t) (ho : M.ops + 1 ≤ 1000)
    (hop : opG c { M with wait := [], ops := M.ops + 1 } M.wait = .ok M2) (hov : M2.over = false) : runS np deeper true (c :: s) M = runS np deeper true s { M2 with drawn := true } := by
  rw [runS_op _ (by omega), if_neg (by omega), if_neg h8, if_neg h9, draw_is (M := { M with ops := M.ops + 1 }) ht h0 hl, hop]
  simp only [drawnG, thenG]
  rw [hov]; rfl
theorem run_body {np : Nat} {deeper : Nat → GM → GR} : ∀ (rest pre : List Sg) (M : GM), M.l = pre → mayB (pre ++ rest) = true → M.wait = [] → M.over = false → M.ops + rest.length ≤ 1000 → -8191 ≤ M.x ∧ M.x ≤ 8191 → -8191 ≤ M.y ∧ M.y ≤ 8191 →
    ∀ s, ∃ M', M'.l = pre ++ rest ∧ M'.wait = [] ∧ M'.over = false ∧ M'.ops = M.ops + rest.length ∧ M'.wide = M.wide ∧ runS np deeper true (bodyG M.x M.y (lastMv pre).1 (lastMv pre).2 rest ++ s) M = runS np deeper true s M'
  | [], pre, M, hl, _, hw, ho, _, _, _, s => ⟨M, by rw [hl, List.append_nil], hw, ho, rfl, rfl, rfl⟩
  | g :: rest, pre, M, hl, hm, hw, ho, hops, hx, hy, s => by
    have hm1 : mayB (pre ++ [g]) = true := by
      have : pre ++ g :: rest = (pre ++ [g]) ++ rest := by simp
      rw [this] at hm; exact may_pref hm
    have hm2 : mayB ((pre ++ [g]) ++ rest) = true := by simpa using hm
    obtain ⟨hpm, hrb, hpl⟩ := may_pre hm1
    obtain ⟨hpc, hrr⟩ := rightB_iff.1 hrb
    obtain ⟨c1, c2, c3, c4⟩ := pieceB_co hpc
    rw [co_iff'] at c1 c2 c3 c4
    rw [List.length_cons] at hops
    have hk : g.kind = 1 ∨ g.kind = 2 ∨ g.kind = 3 ∨ g.kind = 4 := by
      have := may_kind hm1 pre.length (by simp)
      simp at this; omega
    obtain ⟨w, l, x, y, wide, ops, dr, ov⟩ := M
    simp only at hl hw ho hops hx hy
    subst hl; subst hw; subst ho
    have fin : ∀ M2 : GM, M2.l = l ++ [g] → M2.wait = [] → M2.over = false → M2.ops = ops + 1 → M2.wide = wide → (-8191 ≤ M2.x ∧ M2.x ≤ 8191) → (-8191 ≤ M2.y ∧ M2.y ≤ 8191) → ∀ t, bodyG x y (lastMv l).1 (lastMv l).2 (g :: rest) = t →
        runS np deeper true (t ++ s) ⟨[], l, x, y, wide, ops, dr, false⟩ = runS np deeper true (bodyG M2.x M2.y (lastMv (l ++ [g])).1 (lastMv (l ++ [g])).2 rest ++ s) M2 →
        ∃ M', M'.l = l ++ g :: rest ∧ M'.wait = [] ∧ M'.over = false ∧ M'.ops = ops + (rest.length + 1) ∧ M'.wide = wide ∧ runS np deeper true (bodyG x y (lastMv l).1 (lastMv l).2 (g :: rest) ++ s) ⟨[], l, x, y, wide, ops, dr, false⟩ = runS np deeper true s M' := by
      intro M2 e1 e2 e3 e4 e5 e6 e7 t ht hrun
      obtain ⟨M', a1, a2, a3, a4, a5, a6⟩ := run_body rest (l ++ [g]) M2 e1 hm2 e2 e3 (by omega) e6 e7 s
      exact ⟨M', by rw [a1]; simp, a2, a3, by omega, by rw [a5, e5], by rw [ht, hrun, a6]⟩
    rcases hk with hk | hk | hk | hk
    · have hb : bodyG x y (lastMv l).1 (lastMv l).2 (g :: rest) = putG (g.x - x) ++ (putG (g.y - y) ++ 2 :: bodyG g.x g.y g.x g.y rest) := by
        simp only [bodyG]; rw [if_neg (by omega), if_pos hk]
      refine fin ⟨[], l ++ [g], g.x, g.y, wide, ops + 1, true, false⟩ rfl rfl rfl rfl rfl c1 c2 _ hb ?_
      rw [List.append_assoc, run_put (by omega), push_few (by simp), List.append_assoc, run_put (by omega), push_few (by simp), List.cons_append, mv_snoc, if_pos hk]
      exact run_oper (t := 2) (M2 := ⟨[], l ++ [g], g.x, g.y, wide, ops + 1, dr, false⟩) _ (by omega) (by omega) (by omega) rfl (by omega) rfl (by simp only; omega) (by
        have := step_move (M := ⟨[], l, x, y, wide, ops + 1, dr, false⟩) rfl hm1 hk
        simpa [opG] using this) rfl
    · have hb : bodyG x y (lastMv l).1 (lastMv l).2 (g :: rest) = putG (g.x - x) ++ (putG (g.y - y) ++ 3 :: bodyG g.x g.y (lastMv l).1 (lastMv l).2 rest) := by
        simp only [bodyG]; rw [if_neg (by omega), if_neg (by omega), if_pos hk]
      refine fin ⟨[], l ++ [g], g.x, g.y, wide, ops + 1, true, false⟩ rfl rfl rfl rfl rfl c1 c2 _ hb ?_
      rw [List.append_assoc, run_put (by omega), push_few (by simp), List.append_assoc, run_put (by omega), push_few (by simp), List.cons_append, mv_snoc, if_neg (by omega)]
      exact run_oper (t := 2) (M2 := ⟨[], l ++ [g], g.x, g.y, wide, ops + 1, dr, false⟩) _ (by omega) (by omega) (by omega) rfl (by omega) rfl (by simp only; omega) (by
        have := step_line (M := ⟨[], l, x, y, wide, ops + 1, dr, false⟩) rfl hm1 hk
        simp only at this
        simp [opG, linesG, this]) rfl
    · have hb : bodyG x y (lastMv l).1 (lastMv l).2 (g :: rest) = putG (g.cx - x) ++ (putG (g.cy - y) ++ (putG (g.x - x) ++ (putG (g.y - y) ++ 4 :: bodyG g.x g.y (lastMv l).1 (lastMv l).2 rest))) := by
        simp only [bodyG]; rw [if_neg (by omega), if_neg (by omega), if_neg (by omega)]
      refine fin ⟨[], l ++ [g], g.x, g.y, wide, ops + 1, true, false⟩ rfl rfl rfl rfl rfl c1 c2 _ hb ?_
      rw [List.append_assoc, run_put (by omega), push_few (by simp), List.append_assoc, run_put (by omega), push_few (by simp), List.append_assoc, run_put (by omega), push_few (by simp), List.append_assoc, run_put (by omega), push_few (by simp), List.cons_append, mv_snoc, if_neg (by omega)]
      exact run_oper (t := 4) (M2 := ⟨[], l ++ [g], g.x, g.y, wide, ops + 1, dr, false⟩) _ (by omega) (by omega) (by omega) rfl (by omega) rfl (by simp only; omega) (by
        have := step_bow (M := ⟨[], l, x, y, wide, ops + 1, dr, false⟩) rfl hm1 hk
        simpa [opG] using this) rfl
    · have hb : bodyG x y (lastMv l).1 (lastMv l).2 (g :: rest) = 7 :: bodyG (lastMv l).1 (lastMv l).2 (lastMv l).1 (lastMv l).2 rest := by
        simp only [bodyG]; rw [if_pos hk]
      obtain ⟨m1, m2⟩ := lastMv_co hpm
      rw [co_iff'] at m1 m2
      refine fin ⟨[], l ++ [g], (lastMv l).1, (lastMv l).2, wide, ops + 1, true, false⟩ rfl rfl rfl rfl rfl m1 m2 _ hb ?_
      rw [List.cons_append, mv_snoc, if_neg (by omega)]
      exact run_oper (t := 0) (M2 := ⟨[], l ++ [g], (lastMv l).1, (lastMv l).2, wide, ops + 1, dr, false⟩) _ (by omega) (by omega) (by omega) rfl (by omega) rfl (by simp only; omega) (by
        have := step_shut (M := ⟨[], l, x, y, wide, ops + 1, dr, false⟩) rfl hm1 hk
        simpa [opG] using this) rfl
end Go.Proofs.Ytbpeoejjjllieaa
