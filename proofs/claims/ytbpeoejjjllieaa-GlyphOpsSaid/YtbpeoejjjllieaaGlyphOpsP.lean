/- GlyphOps, plainly: a line across, a line up, pairs of lines are the lines that they say. -/
import Derived.Test.YtbpeoejjjllieaaGlyphCodeQ
namespace Go.Proofs.Ytbpeoejjjllieaa

/-- A line further. -/
def goL (M : GM) (a b : Int) : GM := { M with l := M.l ++ [⟨2, M.x + a, M.y + b, 0, 0⟩], x := M.x + a, y := M.y + b }
def goD (M : GM) : List (Int × Int) → GM
  | [] => M
  | d :: D => goD (goL M d.1 d.2) D
/-- A state on a small page, a contour begun. -/
structure LG (M : GM) (N : Nat) (B : Int) : Prop where
  may : mayB M.l = true
  last : lastK M.l = 1 ∨ lastK M.l = 2
  len : M.l.length = N
  x : -B ≤ M.x ∧ M.x ≤ B
  y : -B ≤ M.y ∧ M.y ≤ B
  wait : M.wait = []
  over : M.over = false
def Small (d : Int × Int) : Prop := (-30 ≤ d.1 ∧ d.1 ≤ 30) ∧ (-30 ≤ d.2 ∧ d.2 ≤ 30)
theorem LG.snoc {M : GM} {N : Nat} {B a b : Int} (h : LG M N B) (hd : Small (a, b)) (hB : B ≤ 8000) (hN : N < 300) : mayB (M.l ++ [⟨2, M.x + a, M.y + b, 0, 0⟩]) = true := by
  have h1 := h.x; have h2 := h.y; have h3 := h.last
  unfold Small at hd; simp only at hd
  refine may_snoc (mayB_from h.may).1 (rightB_iff.2 ⟨?_, .inr ⟨by simp, by omega, by omega⟩⟩) (by rw [h.len]; omega)
  simp [pieceB, co]; omega
theorem LG.go {M : GM} {N : Nat} {B a b : Int} (h : LG M N B) (hd : Small (a, b)) (hB : B ≤ 8000) (hN : N < 300) (ops : Nat) (dr : Bool) : LG { goL M a b with ops := ops, drawn := dr } (N + 1) (B + 30) := by
  have hs := h.snoc hd hB hN
  have h1 := h.x; have h2 := h.y
  unfold Small at hd; simp only at hd
  exact ⟨hs, .inr (by simp [goL, lastK]), by simp [goL, h.len], by simp only [goL]; omega, by simp only [goL]; omega, h.wait, h.over⟩
theorem line_go {M : GM} {N : Nat} {B a b : Int} (h : LG M N B) (hd : Small (a, b)) (hB : B ≤ 8000) (hN : N < 300) (w : List Int) (ops : Nat) (dr : Bool) :
    lineG { M with wait := w, ops := ops, drawn := dr } a b = .ok { goL M a b with wait := w, ops := ops, drawn := dr } := by
  have := step_line (pre := M.l) (s := ⟨2, M.x + a, M.y + b, 0, 0⟩) (M := { M with wait := w, ops := ops, drawn := dr }) rfl (h.snoc hd hB hN) rfl
  simp only at this
  rw [show M.x + a - M.x = a by omega, show M.y + b - M.y = b by omega] at this
  rw [this]; rfl
section
variable {np : Nat} {deeper : Nat → GM → GR}
theorem run_byte {M : GM} {v : Int} (hv : -30 ≤ v ∧ v ≤ 30) (hw : M.wait.length < 24) (s : List Nat) : runS np deeper true ((v + 139).toNat :: s) M = runS np deeper true s { M with wait := M.wait ++ [v] } := by
  rw [runS.eq_def]
  simp only
  rw [if_pos (by omega), if_pos (by omega)]
  unfold pushG
  rw [if_neg (by omega), show (((v + 139).toNat : Nat) : Int) - 139 = v by omega]
/-- A line operator of two numbers, and the two of one. -/
theorem run_line {M : GM} {N : Nat} {B a b : Int} (h : LG M N B) (hd : Small (a, b)) (hB : B ≤ 8000) (hN : N < 300) (ho : M.ops + 1 ≤ 1000) (s : List Nat) :
    runS np deeper true ((a + 139).toNat :: (b + 139).toNat :: 3 :: s) M = runS np deeper true s { goL M a b with ops := M.ops + 1, drawn := true } := by
  have hd' := hd
  unfold Small at hd'; simp only at hd'
  rw [run_byte hd'.1 (by rw [h.wait]; simp), run_byte hd'.2 (by simp [h.wait])]
  have hl := line_go h hd hB hN [] (M.ops + 1) M.drawn
  obtain ⟨w, l, x, y, wide, ops, dr, ov⟩ := M
  have hw := h.wait; have hv := h.over
  simp only at hw hv; subst hw; subst hv
  refine run_oper (t := 2) (M2 := { goL ⟨[], l, x, y, wide, ops, dr, false⟩ a b with ops := ops + 1 }) s (by omega) (by omega) (by omega) rfl (by omega) rfl ho ?_ rfl
  simp only at hl
  simp [opG, linesG, hl, goL]
theorem run_across {M : GM} {N : Nat} {B a : Int} (h : LG M N B) (hd : Small (a, 0)) (hB : B ≤ 8000) (hN : N < 300) (ho : M.ops + 1 ≤ 1000) (s : List Nat) :
    runS np deeper true ((a + 139).toNat :: 5 :: s) M = runS np deeper true s { goL M a 0 with ops := M.ops + 1, drawn := true } := by
  have hd' := hd
  unfold Small at hd'; simp only at hd'
  rw [run_byte hd'.1 (by rw [h.wait]; simp)]
  have hl := line_go h hd hB hN [] (M.ops + 1) M.drawn
  obtain ⟨w, l, x, y, wide, ops, dr, ov⟩ := M
  have hw := h.wait; have hv := h.over
  simp only at hw hv; subst hw; subst hv
  refine run_oper (t := 1) (M2 := { goL ⟨[], l, x, y, wide, ops, dr, false⟩ a 0 with ops := ops + 1 }) s (by omega) (by omega) (by omega) rfl (by omega) rfl ho ?_ rfl
  simp only at hl
  simp [opG, hl, goL]
theorem run_up {M : GM} {N : Nat} {B b : Int} (h : LG M N B) (hd : Small (0, b)) (hB : B ≤ 8000) (hN : N < 300) (ho : M.ops + 1 ≤ 1000) (s : List Nat) :
    runS np deeper true ((b + 139).toNat :: 6 :: s) M = runS np deeper true s { goL M 0 b with ops := M.ops + 1, drawn := true } := by
  have hd' := hd
  unfold Small at hd'; simp only at hd'
  rw [run_byte hd'.2 (by rw [h.wait]; simp)]
  have hl := line_go h hd hB hN [] (M.ops + 1) M.drawn
  obtain ⟨w, l, x, y, wide, ops, dr, ov⟩ := M
  have hw := h.wait; have hv := h.over
  simp only at hw hv; subst hw; subst hv
  refine run_oper (t := 1) (M2 := { goL ⟨[], l, x, y, wide, ops, dr, false⟩ 0 b with ops := ops + 1 }) s (by omega) (by omega) (by omega) rfl (by omega) rfl ho ?_ rfl
  simp only at hl
  simp [opG, hl, goL]
end
def byteV (v : Int) : Nat := (v + 139).toNat
/-- The one program's bytes, the other's, and the pairs'. -/
def bytesA (P : List (Int × Int)) : List Nat := P.flatMap fun p => [byteV p.1, 5, byteV p.2, 6, byteV p.1, byteV p.2, 3]
def bytesB (P : List (Int × Int)) : List Nat := P.flatMap fun p => [byteV p.1, 139, 3, 139, byteV p.2, 3, byteV p.1, byteV p.2, 3]
def bytesP (P : List (Int × Int)) : List Nat := P.flatMap fun p => [byteV p.1, byteV p.2]
def bytesL (P : List (Int × Int)) : List Nat := P.flatMap fun p => [byteV p.1, byteV p.2, 3]
section
variable {np : Nat} {deeper : Nat → GM → GR}
/-- Both come to the same state. -/
theorem run_both : ∀ (P : List (Int × Int)) (M : GM) (N : Nat) (B : Int), LG M N B → (∀ p ∈ P, Small p) → B + 90 * P.length ≤ 8000 → N + 3 * P.length < 300 → M.ops + 3 * P.length ≤ 900 →
    ∃ M', LG M' (N + 3 * P.length) (B + 90 * P.length) ∧ M'.ops = M.ops + 3 * P.length ∧ M'.wide = M.wide ∧ ∀ s, runS np deeper true (bytesA P ++ s) M = runS np deeper true s M' ∧ runS np deeper true (bytesB P ++ s) M = runS np deeper true s M'
  | [], M, N, B, h, _, _, _, _ => ⟨M, by simpa using h, by simp, rfl, fun s => ⟨rfl, rfl⟩⟩
  | p :: P, M, N, B, h, hs, hB, hN, ho => by
    obtain ⟨a, b⟩ := p
    rw [List.length_cons] at hB hN ho
    have hp : Small (a, b) := hs _ (by simp)
    have hp1 : Small (a, 0) := ⟨hp.1, by simp⟩
    have hp2 : Small (0, b) := ⟨by simp, hp.2⟩
    have h1 := h.go hp1 (by omega) (by omega) (M.ops + 1) true
    have h2 := h1.go hp2 (by omega) (by omega) (M.ops + 2) true
    have h3 := h2.go hp (by omega) (by omega) (M.ops + 3) true
    obtain ⟨M', g1, g2, g3, g4⟩ := run_both P _ _ _ h3 (fun q hq => hs q (by simp [hq])) (by omega) (by omega) (by simp only; omega)
    refine ⟨M', ?_, ?_, g3, fun s => ⟨?_, ?_⟩⟩
    · have e1 : N + 1 + 1 + 1 + 3 * P.length = N + 3 * (P.length + 1) := by omega
      have e2 : B + 30 + 30 + 30 + 90 * (P.length : Int) = B + 90 * ((P.length + 1 : Nat) : Int) := by omega
      rw [List.length_cons, ← e1, ← e2]; exact g1
    · rw [g2, List.length_cons]; simp only; omega
    · rw [← (g4 s).1]
      have e : bytesA ((a, b) :: P) ++ s = (a + 139).toNat :: 5 :: (b + 139).toNat :: 6 :: (a + 139).toNat :: (b + 139).toNat :: 3 :: (bytesA P ++ s) := by simp [bytesA, byteV]
      rw [e, run_across h hp1 (by omega) (by omega) (by omega), run_up h1 hp2 (by omega) (by omega) (by simp only; omega), run_line h2 hp (by omega) (by omega) (by simp only; omega)]
    · rw [← (g4 s).2]
      have e : bytesB ((a, b) :: P) ++ s = (a + 139).toNat :: ((0 : Int) + 139).toNat :: 3 :: ((0 : Int) + 139).toNat :: (b + 139).toNat :: 3 :: (a + 139).toNat :: (b + 139).toNat :: 3 :: (bytesB P ++ s) := by simp [bytesB, byteV]
      rw [e, run_line h hp1 (by omega) (by omega) (by omega), run_line h1 hp2 (by omega) (by omega) (by simp only; omega), run_line h2 hp (by omega) (by omega) (by simp only; omega)]
/-- Pairs, a line each, and at once. -/
theorem run_each : ∀ (P : List (Int × Int)) (M : GM) (N : Nat) (B : Int), LG M N B → (∀ p ∈ P, Small p) → B + 30 * P.length ≤ 8000 → N + P.length < 300 → M.ops + P.length ≤ 900 →
    LG (goD M P) (N + P.length) (B + 30 * P.length) ∧ (∀ s, runS np deeper true (bytesL P ++ s) M = runS np deeper true s { goD M P with ops := M.ops + P.length, drawn := M.drawn || !P.isEmpty }) ∧
      linesG M (P.flatMap fun p => [p.1, p.2]) = .ok (goD M P) ∧ (goD M P).ops = M.ops ∧ (goD M P).wide = M.wide
  | [], M, N, B, h, _, _, _, _ => ⟨by simpa [goD] using h, fun s => by simp [bytesL, goD], rfl, rfl, rfl⟩
  | p :: P, M, N, B, h, hs, hB, hN, ho => by
    obtain ⟨a, b⟩ := p
    rw [List.length_cons] at hB hN ho
    have hp : Small (a, b) := hs _ (by simp)
    have h1 := h.go hp (by omega) (by omega) M.ops M.drawn
    have h2 := h.go hp (by omega) (by omega) (M.ops + 1) true
    have hl := line_go h hp (by omega) (by omega) M.wait M.ops M.drawn
    obtain ⟨g1, g2, g3, g4, g5⟩ := run_each P _ _ _ h1 (fun q hq => hs q (by simp [hq])) (by omega) (by omega) (by simp only; omega)
    obtain ⟨k1, k2, k3, k4, k5⟩ := run_each P _ _ _ h2 (fun q hq => hs q (by simp [hq])) (by omega) (by omega) (by simp only; omega)
    have hgo : ∀ (D : List (Int × Int)) (M : GM) (o : Nat) (d : Bool), goD { M with ops := o, drawn := d } D = { goD M D with ops := o, drawn := d } := by
      intro D; induction D with
      | nil => intro M o d; rfl
      | cons q D ih => intro M o d; simp only [goD]; exact ih (goL M q.1 q.2) o d
    have hself : ({ goL M a b with ops := M.ops, drawn := M.drawn } : GM) = goL M a b := rfl
    rw [hself] at g1 g3 g4 g5
    refine ⟨?_, fun s => ?_, ?_, g4, g5⟩
    · have e1 : N + 1 + P.length = N + (P.length + 1) := by omega
      have e2 : B + 30 + 30 * (P.length : Int) = B + 30 * ((P.length + 1 : Nat) : Int) := by omega
      rw [List.length_cons, ← e1, ← e2]; exact g1
    · have e : bytesL ((a, b) :: P) ++ s = (a + 139).toNat :: (b + 139).toNat :: 3 :: (bytesL P ++ s) := by simp [bytesL, byteV]
      rw [e, run_line h hp (by omega) (by omega) (by omega), k2 s, hgo]
      simp only [goD, List.length_cons, List.isEmpty_cons, Bool.not_false, Bool.or_true, Bool.true_or]
      congr 2; omega
    · simp only [List.flatMap_cons, List.cons_append, List.nil_append, linesG]
      have hM : ({ M with wait := M.wait, ops := M.ops, drawn := M.drawn } : GM) = M := rfl
      rw [hM] at hl
      rw [hl]
      simp only
      exact g3
theorem run_waits : ∀ (P : List (Int × Int)) (M : GM), (∀ p ∈ P, Small p) → M.wait.length + 2 * P.length ≤ 24 → ∀ s, runS np deeper true (bytesP P ++ s) M = runS np deeper true s { M with wait := M.wait ++ P.flatMap fun p => [p.1, p.2] }
  | [], M, _, _, s => by simp [bytesP]
  | p :: P, M, hs, hw, s => by
    obtain ⟨a, b⟩ := p
    rw [List.length_cons] at hw
    have hp : Small (a, b) := hs _ (by simp)
    unfold Small at hp; simp only at hp
    have e : bytesP ((a, b) :: P) ++ s = (a + 139).toNat :: (b + 139).toNat :: (bytesP P ++ s) := by simp [bytesP, byteV]
    rw [e, run_byte hp.1 (by omega), run_byte hp.2 (by simp; omega), run_waits P _ (fun q hq => hs q (by simp [hq])) (by simp; omega)]
    simp
end
theorem start_run (deeper : Nat → GM → GR) (s : List Nat) : runS 0 deeper true (139 :: 139 :: 2 :: s) startG = runS 0 deeper true s ⟨[], [⟨1, 0, 0, 0, 0⟩], 0, 0, 0, 1, true, false⟩ := by
  have h1 := run_byte (np := 0) (deeper := deeper) (M := startG) (v := 0) (by omega) (by simp [startG]) (139 :: 2 :: s)
  have h2 := run_byte (np := 0) (deeper := deeper) (M := { startG with wait := [0] }) (v := 0) (by omega) (by simp) (2 :: s)
  have e : ((0 : Int) + 139).toNat = 139 := rfl
  rw [e] at h1 h2
  rw [h1]
  have h3 : ({ startG with wait := startG.wait ++ [0] } : GM) = { startG with wait := [0] } := rfl
  rw [h3, h2]
  exact run_oper (t := 2) (M := { startG with wait := [0, 0] }) (M2 := ⟨[], [⟨1, 0, 0, 0, 0⟩], 0, 0, 0, 1, false, false⟩) s (by omega) (by omega) (by omega) rfl (by omega) rfl (by simp [startG]) (by rfl) rfl
def progA (P : List (Int × Int)) : List Nat := 0 :: 139 :: 139 :: 2 :: (bytesA P ++ (if P = [] then [] else bytesP P ++ [11]) ++ [10])
def progB (P : List (Int × Int)) : List Nat := 0 :: 139 :: 139 :: 2 :: (bytesB P ++ (if P = [] then [] else bytesL P) ++ [10])
theorem flat_len {α : Type} (P : List α) (f : α → List Nat) (k : Nat) (h : ∀ p, (f p).length = k) : (P.flatMap f).length = k * P.length := by
  induction P with
  | nil => simp
  | cons p P ih => rw [List.flatMap_cons, List.length_append, ih, h, List.length_cons, Nat.mul_succ]; omega
theorem pairs_len (P : List (Int × Int)) : (P.flatMap fun p : Int × Int => [p.1, p.2]).length = 2 * P.length := by
  induction P with
  | nil => rfl
  | cons p P ih => rw [List.flatMap_cons, List.length_append, ih, List.length_cons]; simp; omega
theorem ops_law (P : List (Int × Int)) (hs : ∀ p ∈ P, Small p) (hm : P.length ≤ 10) : ∃ L : List Sg, RunG (progA P) = ((L, 0), 0) ∧ RunG (progB P) = ((L, 0), 0) ∧ L.length = 1 + 4 * P.length := by
  have la : (bytesA P).length = 7 * P.length := flat_len P _ 7 fun _ => rfl
  have lb : (bytesB P).length = 9 * P.length := flat_len P _ 9 fun _ => rfl
  have lp : (bytesP P).length = 2 * P.length := flat_len P _ 2 fun _ => rfl
  have ll : (bytesL P).length = 3 * P.length := flat_len P _ 3 fun _ => rfl
  obtain ⟨D, hD⟩ : ∃ D : Nat → GM → GR, D = fun k M => runD [] 3 false (([] : List (List Nat))[k]?.getD []) M := ⟨_, rfl⟩
  have h0 : LG ⟨[], [⟨1, 0, 0, 0, 0⟩], 0, 0, 0, 1, true, false⟩ 1 0 := ⟨by decide, .inl rfl, rfl, by simp, by simp, rfl, rfl⟩
  obtain ⟨M', g1, g2, g3, g4⟩ := run_both (np := 0) (deeper := D) P _ 1 0 h0 hs (by omega) (by omega) (by simp only; omega)
  simp only at g2 g3
  have ha : RunG (progA P) = endG (runS 0 D true ((if P = [] then [] else bytesP P ++ [11]) ++ [10]) M') := by
    unfold progA
    rw [RunG_zero (by simp only [List.length_cons, List.length_append, List.length_nil, la]; split <;> simp [lp] <;> omega), ← hD, start_run, List.append_assoc, (g4 _).1]
  have hb : RunG (progB P) = endG (runS 0 D true ((if P = [] then [] else bytesL P) ++ [10]) M') := by
    unfold progB
    rw [RunG_zero (by simp only [List.length_cons, List.length_append, List.length_nil, lb]; split <;> simp [ll] <;> omega), ← hD, start_run, List.append_assoc, (g4 _).2]
  rw [ha, hb]
  by_cases hP : P = []
  · subst hP
    rw [if_pos rfl, if_pos rfl, List.nil_append, run_end g1.wait (by rw [g2]; simp)]
    refine ⟨M'.l, by simp only [endG, g3], by simp only [endG, g3], by rw [g1.len]; simp⟩
  · rw [if_neg hP, if_neg hP]
    have hpos : 0 < P.length := List.length_pos_iff.2 hP
    obtain ⟨e1, e2, e3, e4, e5⟩ := run_each (np := 0) (deeper := D) P M' _ _ g1 hs (by omega) (by omega) (by omega)
    have g1' : LG { M' with ops := M'.ops + 1 } (1 + 3 * P.length) (0 + 90 * P.length) := ⟨g1.may, g1.last, g1.len, g1.x, g1.y, g1.wait, g1.over⟩
    obtain ⟨f1, _, f3, f4, f5⟩ := run_each (np := 0) (deeper := D) P { M' with ops := M'.ops + 1 } _ _ g1' hs (by omega) (by omega) (by simp only; omega)
    simp only at f4 f5
    obtain ⟨W, hW⟩ : ∃ W, W = P.flatMap (fun p : Int × Int => [p.1, p.2]) := ⟨_, rfl⟩
    have hWl : W.length = 2 * P.length := by rw [hW]; exact pairs_len P
    rw [← hW] at f3
    refine ⟨(goD M' P).l, ?_, ?_, by rw [e1.len]; omega⟩
    · rw [List.append_assoc, run_waits P M' hs (by rw [g1.wait]; simp; omega), g1.wait, List.nil_append, ← hW]
      rw [List.singleton_append, runS_op _ (by omega), if_neg (by simp only; omega), if_neg (by omega), if_neg (by omega)]
      have hd : drawG 11 { M' with wait := W, ops := M'.ops + 1 } = drawnG (linesG { M' with ops := M'.ops + 1 } W) := by
        unfold drawG
        have : takesG 11 = some (-1) := rfl
        rw [this]
        simp only
        rw [if_neg (by omega), if_neg (by omega)]
        have hw : ({ M' with wait := [], ops := M'.ops + 1 } : GM) = { M' with ops := M'.ops + 1 } := by
          have := g1.wait
          obtain ⟨w, l, x, y, wide, ops, dr, ov⟩ := M'
          simp only at this; subst this; rfl
        simp only [opG]
        rw [hw]
        rfl
      rw [hd, f3]
      simp only [drawnG, thenG]
      rw [if_neg (by rw [f1.over]; simp)]
      have hend := run_end (deeper := D) (M := { goD { M' with ops := M'.ops + 1 } P with drawn := true }) f1.wait (by simp only; omega) []
      rw [hend]
      have hgl : (goD { M' with ops := M'.ops + 1 } P).l = (goD M' P).l := by
        have : ∀ (D : List (Int × Int)) (M : GM) (o : Nat), (goD { M with ops := o } D).l = (goD M D).l := by
          intro D; induction D with
          | nil => intro M o; rfl
          | cons q D ih => intro M o; simp only [goD]; exact ih (goL M q.1 q.2) o
        exact this P M' _
      simp only [endG]
      rw [hgl, f5, g3]
    · rw [e2]
      have hend := run_end (deeper := D) (M := { goD M' P with ops := M'.ops + P.length, drawn := M'.drawn || !P.isEmpty }) e1.wait (by simp only; omega) []
      rw [hend]
      simp only [endG, e5, g3]
end Go.Proofs.Ytbpeoejjjllieaa
