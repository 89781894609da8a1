/- The plain side of layer 40: what a letter's program draws. -/
import Derived.Test.YtbpeoejjjllieaaGrowP
namespace Go.Proofs.Ytbpeoejjjllieaa

/-- A machine's state. -/
structure GM where
  wait : List Int
  l : List Sg
  x : Int
  y : Int
  wide : Int
  ops : Nat
  drawn : Bool
  over : Bool
/-- What comes out: an error, or a state. -/
inductive GR where
  | bad (e : Int)
  | ok (M : GM)

def takeG (M : GM) (r : List Sg × Int) : GR :=
  if r.2 = 0 then .ok { M with l := r.1, x := if (ptL r.1).2.2 then (ptL r.1).1 else M.x, y := if (ptL r.1).2.2 then (ptL r.1).2.1 else M.y } else .bad r.2
def moveG (M : GM) (a b : Int) : GR := takeG M (startL M.l (M.x + a) (M.y + b))
def lineG (M : GM) (a b : Int) : GR := takeG M (onL M.l ⟨2, M.x + a, M.y + b, 0, 0⟩)
def bowG (M : GM) (a b c d : Int) : GR := takeG M (onL M.l ⟨3, M.x + c, M.y + d, M.x + a, M.y + b⟩)
def shutG (M : GM) : GR := takeG M (shutL M.l)
def widthG (M : GM) (a : Int) : GR := if M.drawn then .bad 3 else if a < 0 ∨ 8191 < a then .bad 2 else .ok { M with wide := a }
def linesG (M : GM) : List Int → GR
  | a :: b :: v => match lineG M a b with
    | .bad e => .bad e
    | .ok M' => linesG M' v
  | _ => .ok M
/-- How many numbers an operator takes; -1: pairs. -/
def takesG (code : Nat) : Option Int :=
  if code = 1 ∨ code = 5 ∨ code = 6 then some 1 else if code = 2 ∨ code = 3 then some 2 else if code = 11 then some (-1) else if code = 4 then some 4 else if code = 7 ∨ code = 10 then some 0 else none
/-- What it does with them. -/
def opG (code : Nat) (M : GM) (v : List Int) : GR :=
  if code = 1 then widthG M (v[0]?.getD 0) else if code = 2 then moveG M (v[0]?.getD 0) (v[1]?.getD 0) else if code = 3 ∨ code = 11 then linesG M v
  else if code = 4 then bowG M (v[0]?.getD 0) (v[1]?.getD 0) (v[2]?.getD 0) (v[3]?.getD 0) else if code = 5 then lineG M (v[0]?.getD 0) 0 else if code = 6 then lineG M 0 (v[0]?.getD 0)
  else if code = 7 then shutG M else .ok { M with over := true }
def drawnG : GR → GR
  | .bad e => .bad e
  | .ok M => .ok { M with drawn := true }
def drawG (code : Nat) (M : GM) : GR :=
  match takesG code with
  | none => .bad 3
  | some t =>
    if (t < 0 ∧ (M.wait.length = 0 ∨ M.wait.length % 2 = 1)) ∨ (M.wait.length : Int) < t then .bad 7
    else if 0 ≤ t ∧ t < (M.wait.length : Int) then .bad 8
    else drawnG (opG code { M with wait := [] } M.wait)
/-- The piece that the last number tells. -/
def callG (np : Nat) (deeper : Nat → GM → GR) (M : GM) : GR :=
  match M.wait.getLast? with
  | none => .bad 7
  | some k => if k < 0 ∨ (np : Int) ≤ k then .bad 3 else deeper k.toNat { M with wait := M.wait.dropLast }
/-- A number that waits. -/
def pushG (M : GM) (v : Int) (k : GM → GR) : GR := if M.wait.length = 24 then .bad 8 else k { M with wait := M.wait ++ [v] }
/-- Behind an operator. -/
def thenG (r : GR) (k : GM → GR) : GR :=
  match r with
  | .bad e => .bad e
  | .ok M => if M.over then .ok M else k M
def i16 (v : Int) : Int := if v < 32768 then v else v - 65536
/-- A piece is run. -/
def runS (np : Nat) (deeper : Nat → GM → GR) (top : Bool) : List Nat → GM → GR
  | [], _ => .bad 4
  | b :: s, M =>
    if 32 ≤ b then
      if b ≤ 246 then pushG M ((b : Int) - 139) (runS np deeper top s)
      else if b = 255 then
        match s with
        | c :: d :: s' => pushG M (i16 ((c : Int) * 256 + d)) (runS np deeper top s')
        | _ => .bad 4
      else
        match s with
        | c :: s' => pushG M (if b ≤ 250 then 256 * ((b : Int) - 247) + c + 108 else -256 * ((b : Int) - 251) - c - 108) (runS np deeper top s')
        | [] => .bad 4
    else if 1000 < M.ops + 1 then .bad 5
    else if b = 8 then thenG (callG np deeper { M with ops := M.ops + 1 }) (runS np deeper top s)
    else if b = 9 then if top then .bad 3 else .ok { M with ops := M.ops + 1 }
    else thenG (drawG b { M with ops := M.ops + 1 }) (runS np deeper top s)
/-- So much deeper at most. -/
def runD (P : List (List Nat)) : Nat → Bool → List Nat → GM → GR
  | 0, top, s, M => runS P.length (fun _ _ => .bad 5) top s M
  | d + 1, top, s, M => runS P.length (fun k M => runD P d false (P[k]?.getD []) M) top s M
/-- The pieces, and the main one. -/
def piecesG : Nat → List Nat → List (List Nat) → Option (List (List Nat) × List Nat)
  | 0, s, acc => some (acc, s)
  | _ + 1, [], _ => none
  | n + 1, k :: s, acc => if s.length < k then none else piecesG n (s.drop k) (acc ++ [s.take k])
def splitG (p : List Nat) : (List (List Nat) × List Nat) × Int :=
  if 600 < p.length then (([], []), 5) else
  match p with
  | [] => (([], []), 4)
  | n :: s => if 16 < n then (([], []), 3) else
    match piecesG n s [] with
    | none => (([], []), 4)
    | some r => (r, 0)
def startG : GM := ⟨[], [], 0, 0, 0, 0, false, false⟩
def endG : GR → (List Sg × Int) × Int
  | .bad e => (([], 0), e)
  | .ok M => ((M.l, M.wide), 0)
/-- What a program draws. -/
def RunG (p : List Nat) : (List Sg × Int) × Int :=
  if (splitG p).2 = 0 then endG (runD (splitG p).1.1 4 true (splitG p).1.2 startG) else (([], 0), (splitG p).2)

/-- A number at the beginning, and how many bytes it has. -/
def numG : List Nat → Option (Int × Nat)
  | [] => none
  | b :: s => if b ≤ 246 then some ((b : Int) - 139, 1) else if b = 255 then (match s with
    | c :: d :: _ => some (i16 ((c : Int) * 256 + d), 3)
    | _ => none) else match s with
    | c :: _ => some (if b ≤ 250 then 256 * ((b : Int) - 247) + c + 108 else -256 * ((b : Int) - 251) - c - 108, 2)
    | [] => none
theorem runS_num {np : Nat} {deeper : Nat → GM → GR} {top : Bool} {b : Nat} {s : List Nat} (M : GM) (h : 32 ≤ b) :
    runS np deeper top (b :: s) M = match numG (b :: s) with
      | none => .bad 4
      | some (v, n) => pushG M v (runS np deeper top ((b :: s).drop n)) := by
  rw [runS.eq_def]
  simp only [if_pos h, numG]
  by_cases h1 : b ≤ 246
  · simp only [if_pos h1, List.drop_succ_cons, List.drop_zero]
  · simp only [if_neg h1]
    by_cases h2 : b = 255
    · simp only [if_pos h2]
      match s with
      | [] => rfl
      | [_] => rfl
      | _ :: _ :: _ => rfl
    · simp only [if_neg h2]
      match s with
      | [] => rfl
      | _ :: _ => rfl
theorem runS_op {np : Nat} {deeper : Nat → GM → GR} {top : Bool} {b : Nat} {s : List Nat} (M : GM) (h : ¬ 32 ≤ b) :
    runS np deeper top (b :: s) M = if 1000 < M.ops + 1 then .bad 5
    else if b = 8 then thenG (callG np deeper { M with ops := M.ops + 1 }) (runS np deeper top s)
    else if b = 9 then if top then .bad 3 else .ok { M with ops := M.ops + 1 }
    else thenG (drawG b { M with ops := M.ops + 1 }) (runS np deeper top s) := by
  rw [runS.eq_def]; simp only [if_neg h]
theorem numG_len {s : List Nat} {v : Int} {n : Nat} (h : numG s = some (v, n)) : 1 ≤ n ∧ n ≤ s.length := by
  match s with
  | [] => cases h
  | b :: s =>
    simp only [numG] at h
    by_cases h1 : b ≤ 246
    · rw [if_pos h1] at h
      simp only [Option.some.injEq, Prod.mk.injEq] at h; simp only [List.length_cons]; omega
    · rw [if_neg h1] at h
      by_cases h2 : b = 255
      · rw [if_pos h2] at h
        match s with
        | [] => cases h
        | [_] => cases h
        | _ :: _ :: _ => simp only [Option.some.injEq, Prod.mk.injEq] at h; simp only [List.length_cons]; omega
      · rw [if_neg h2] at h
        match s with
        | [] => cases h
        | _ :: _ => simp only [Option.some.injEq, Prod.mk.injEq] at h; simp only [List.length_cons]; omega

theorem co_iff' {z : Int} : co z = true ↔ -8191 ≤ z ∧ z ≤ 8191 := by simp [co]
theorem ptL_co {l : List Sg} (h : (ptL l).2.2 = true) : co (ptL l).1 = true ∧ co (ptL l).2.1 = true := by
  unfold ptL at h ⊢
  split at h
  · cases h
  · rename_i hn
    rw [if_neg hn]
    have hm : mayB l = true := by cases hh : mayB l; exact absurd (.inr hh) hn; rfl
    have h0 : l ≠ [] := fun e => hn (.inl e)
    split
    · exact lastMv_co hm
    · have hp := List.length_pos_iff.2 h0
      obtain ⟨_, g2, g3⟩ := last_get (l := l) (by omega)
      obtain ⟨c1, c2, _, _⟩ := pieceB_co (may_piece hm (l.length - 1) (by omega))
      simp only [g2, g3]
      exact ⟨c1, c2⟩
theorem longL_zero {l m : List Sg} (h : (longL l m).2 = 0) : longL l m = (l ++ m, 0) ∧ l.length + m.length ≤ 300 := by
  unfold longL at h ⊢
  split at h
  · cases h
  · rename_i hn; rw [if_neg hn]; exact ⟨rfl, by omega⟩
theorem near_sg {x y : Int} (h : ¬ nearB [x, y] = false) : co x = true ∧ co y = true := by
  cases h1 : nearB [x, y]
  · exact absurd h1 h
  · simpa [nearB] using h1
theorem start_may {l : List Sg} {x y : Int} (h : (startL l x y).2 = 0) : mayB (startL l x y).1 = true := by
  unfold startL at h ⊢
  split at h
  · cases h
  · rename_i hm
    rw [if_neg hm]
    have hm : mayB l = true := by cases hh : mayB l; exact absurd hh hm; rfl
    split at h
    · cases h
    · rename_i hn
      rw [if_neg hn]
      obtain ⟨cx, cy⟩ := near_sg hn
      obtain ⟨e1, e2⟩ := longL_zero h
      rw [e1]
      have hr : ∀ a : Int, a ≠ 1 → rightB ⟨1, x, y, 0, 0⟩ a = true := fun a ha => (right_move cx cy).2 ha
      by_cases h1 : lastK l = 1
      · rw [if_pos h1] at e2 ⊢
        obtain ⟨a1, a2⟩ := may_dropLast hm
        exact may_snoc a1 (hr _ (a2 h1)) (by simp only [List.length_singleton] at e2; omega)
      · rw [if_neg h1] at e2 ⊢
        exact may_snoc (mayB_from hm).1 (hr _ h1) (by simp only [List.length_singleton] at e2; omega)
theorem shut_may {l : List Sg} (h : (shutL l).2 = 0) : mayB (shutL l).1 = true := by
  unfold shutL at h ⊢
  split at h
  · cases h
  · rename_i hm
    rw [if_neg hm]
    have hm : mayB l = true := by cases hh : mayB l; exact absurd hh hm; rfl
    by_cases h1 : l = [] ∨ lastK l = 4
    · rw [if_pos h1] at h ⊢
      rw [(longL_zero h).1, List.append_nil]; exact hm
    · rw [if_neg h1] at h ⊢
      obtain ⟨e1, e2⟩ := longL_zero h
      rw [e1]
      have h4 : lastK l ≠ 4 := fun e => h1 (.inr e)
      have h0 : lastK l ≠ 0 := by
        have hne : l ≠ [] := fun e => h1 (.inl e)
        have hp := List.length_pos_iff.2 hne
        rw [(last_get (l := l) (by omega)).1]
        have := (may_kind hm (l.length - 1) (by omega)).1
        omega
      exact may_snoc (mayB_from hm).1 (rightB_iff.2 ⟨by decide, .inr ⟨by decide, h0, h4⟩⟩) (by simp only [List.length_singleton] at e2; omega)
theorem on_may {l : List Sg} {s : Sg} (hk : s.kind = 3 ∨ (s.kind = 2 ∧ s.cx = 0 ∧ s.cy = 0)) (h : (onL l s).2 = 0) : mayB (onL l s).1 = true := by
  unfold onL at h ⊢
  split at h
  · cases h
  · rename_i hm
    rw [if_neg hm]
    have hm : mayB l = true := by cases hh : mayB l; exact absurd hh hm; rfl
    split at h
    · cases h
    · rename_i hne
      rw [if_neg hne]
      split at h
      · cases h
      · rename_i hn
        rw [if_neg hn]
        have hs : pieceB s = true := by
          have hn' : nearB [s.x, s.y, s.cx, s.cy] = true := by cases hh : nearB [s.x, s.y, s.cx, s.cy]; exact absurd hh hn; rfl
          obtain ⟨k, x, y, cx, cy⟩ := s
          simp only at hk hn'
          rcases hk with rfl | ⟨rfl, rfl, rfl⟩
          · simp [nearB] at hn'; simp [pieceB, hn']
          · simp [nearB] at hn'; simp [pieceB, hn']
        have hk1 : s.kind ≠ 1 := by rcases hk with e | e <;> omega
        have hp := List.length_pos_iff.2 hne
        have h0 : lastK l ≠ 0 := by
          rw [(last_get (l := l) (by omega)).1]
          have := (may_kind hm (l.length - 1) (by omega)).1
          omega
        by_cases h4 : lastK l = 4
        · have hpt : ptL l = ((lastMv l).1, (lastMv l).2, true) := by unfold ptL; rw [if_neg (by rw [hm]; simp [hne]), if_pos h4]
          rw [if_pos h4, hpt] at h ⊢
          obtain ⟨e1, e2⟩ := longL_zero h
          rw [e1]
          simp only [List.length_cons, List.length_nil] at e2
          obtain ⟨m1, m2⟩ := lastMv_co hm
          have hmv := may_snoc (mayB_from hm).1 ((right_move m1 m2).2 (show lastK l ≠ 1 by rw [h4]; decide)) (show l.length < 300 by omega)
          have := may_snoc (s := s) (mayB_from hmv).1 (rightB_iff.2 ⟨hs, .inr ⟨hk1, by simp [lastK], by simp [lastK]⟩⟩) (by simp; omega)
          simpa using this
        · rw [if_neg h4] at h ⊢
          obtain ⟨e1, e2⟩ := longL_zero h
          rw [e1]
          simp only [List.length_cons, List.length_nil] at e2
          exact may_snoc (mayB_from hm).1 (rightB_iff.2 ⟨hs, .inr ⟨hk1, h0, h4⟩⟩) (by omega)
/-- What a machine's state keeps. -/
structure GOK (M : GM) : Prop where
  w24 : M.wait.length ≤ 24
  wv : ∀ v ∈ M.wait, -33000 ≤ v ∧ v ≤ 33000
  x : -8191 ≤ M.x ∧ M.x ≤ 8191
  y : -8191 ≤ M.y ∧ M.y ≤ 8191
  may : mayB M.l = true
  wide : 0 ≤ M.wide ∧ M.wide ≤ 8191
  ops : M.ops ≤ 1000
theorem GOK.take {M M' : GM} (h : GOK M) {r : List Sg × Int} (hr : r.2 = 0 → mayB r.1 = true) (he : takeG M r = .ok M') : GOK M' := by
  unfold takeG at he
  split at he
  · rename_i h0
    cases he
    refine ⟨h.w24, h.wv, ?_, ?_, hr h0, h.wide, h.ops⟩
    · simp only
      split
      · rename_i hp; exact co_iff'.1 (ptL_co hp).1
      · exact h.x
    · simp only
      split
      · rename_i hp; exact co_iff'.1 (ptL_co hp).2
      · exact h.y
  · cases he
end Go.Proofs.Ytbpeoejjjllieaa
