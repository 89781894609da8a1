/- glyph.Code, plainly: run whole, cut, with more behind it. -/
import Derived.Test.YtbpeoejjjllieaaGlyphCodeP
namespace Go.Proofs.Ytbpeoejjjllieaa

theorem width_ok {w : Int} (h : 0 ≤ w ∧ w ≤ 8191) : widthG { startG with ops := 1 } w = .ok { startG with ops := 1, wide := w } := by
  unfold widthG
  rw [if_neg (by simp [startG]), if_neg (by simp; omega)]
/-- Behind the width and the path. -/
theorem run_code {deeper : Nat → GM → GR} {l : List Sg} {wide : Int} (hm : mayB l = true) (hw : 0 ≤ wide ∧ wide ≤ 8191) (s : List Nat) :
    ∃ M', M'.l = l ∧ M'.wait = [] ∧ M'.over = false ∧ M'.ops = 1 + l.length ∧ M'.wide = wide ∧ runS 0 deeper true (putG wide ++ 1 :: (bodyG 0 0 0 0 l ++ s)) startG = runS 0 deeper true s M' := by
  have hl := (mayB_from hm).2
  have h1 : runS 0 deeper true (putG wide ++ 1 :: (bodyG 0 0 0 0 l ++ s)) startG = runS 0 deeper true (bodyG 0 0 0 0 l ++ s) ⟨[], [], 0, 0, wide, 1, true, false⟩ := by
    rw [run_put (by omega), push_few (by simp [startG])]
    exact run_oper (t := 1) (M2 := ⟨[], [], 0, 0, wide, 1, false, false⟩) _ (by omega) (by omega) (by omega) rfl (by omega) rfl (by simp [startG]) (by
      have := width_ok hw
      simpa [opG, startG] using this) rfl
  obtain ⟨M', a1, a2, a3, a4, a5, a6⟩ := run_body (np := 0) (deeper := deeper) l [] ⟨[], [], 0, 0, wide, 1, true, false⟩ rfl (by simpa using hm) rfl rfl (by simp only; omega) (by simp) (by simp) s
  refine ⟨M', by simpa using a1, a2, a3, a4, a5, ?_⟩
  rw [h1]; exact a6
theorem run_end {deeper : Nat → GM → GR} {M : GM} (hw : M.wait = []) (ho : M.ops ≤ 999) (s : List Nat) : runS 0 deeper true (10 :: s) M = .ok { M with ops := M.ops + 1, over := true, drawn := true } := by
  rw [runS_op _ (by omega), if_neg (by omega), if_neg (by omega), if_neg (by omega)]
  have h2 : drawG 10 { M with ops := M.ops + 1 } = drawnG (opG 10 { M with ops := M.ops + 1, wait := [] } M.wait) := draw_is (M := { M with ops := M.ops + 1 }) (t := 0) rfl (by omega) (by simp [hw])
  rw [h2]
  obtain ⟨w, l, x, y, wide, ops, dr, ov⟩ := M
  simp only at hw
  subst hw
  rfl
theorem split_code {s : List Nat} (h : s.length ≤ 599) : splitG (0 :: s) = (([], s), 0) := by
  unfold splitG
  rw [if_neg (by simp only [List.length_cons]; omega)]
  rfl
theorem RunG_zero {s : List Nat} (h : s.length ≤ 599) : RunG (0 :: s) = endG (runS 0 (fun k M => runD [] 3 false (([] : List (List Nat))[k]?.getD []) M) true s startG) := by
  unfold RunG; rw [split_code h]; rfl
/-- What is coded draws the path that it was; whatever stands behind it. -/
theorem code_back {l : List Sg} {wide : Int} (hm : mayB l = true) (hw : 0 ≤ wide ∧ wide ≤ 8191) (more : List Nat) (hl : (codeS l wide ++ more).length ≤ 600) : RunG (codeS l wide ++ more) = ((l, wide), 0) := by
  have he : codeS l wide ++ more = 0 :: (putG wide ++ 1 :: (bodyG 0 0 0 0 l ++ 10 :: more)) := by simp [codeS]
  rw [he] at hl ⊢
  rw [RunG_zero (by simp only [List.length_cons] at hl ⊢; omega)]
  obtain ⟨M', a1, a2, a3, a4, a5, a6⟩ := run_code (deeper := fun k M => runD [] 3 false (([] : List (List Nat))[k]?.getD []) M) hm hw (10 :: more)
  have hn := (mayB_from hm).2
  rw [a6, run_end a2 (by omega)]
  simp only [endG, a1, a5]
theorem numG_app {s t : List Nat} {v : Int} {n : Nat} (h : numG s = some (v, n)) : numG (s ++ t) = some (v, n) := by
  match s with
  | [] => cases h
  | b :: s =>
    simp only [numG, List.cons_append] at h ⊢
    by_cases h1 : b ≤ 246
    · rw [if_pos h1] at h ⊢; exact h
    · rw [if_neg h1] at h ⊢
      by_cases h2 : b = 255
      · rw [if_pos h2] at h ⊢
        match s with
        | [] => cases h
        | [_] => cases h
        | _ :: _ :: _ => exact h
      · rw [if_neg h2] at h ⊢
        match s with
        | [] => cases h
        | _ :: _ => exact h
/-- What does not end too early does not look behind. -/
theorem runS_more {np : Nat} {deeper : Nat → GM → GR} {top : Bool} (t : List Nat) : ∀ (k : Nat) (s : List Nat) (M : GM), s.length ≤ k → runS np deeper top s M ≠ .bad 4 → runS np deeper top (s ++ t) M = runS np deeper top s M
  | 0, s, M, hk, h => by
    have : s = [] := List.eq_nil_of_length_eq_zero (by omega)
    subst this
    exact absurd (by rw [runS.eq_def]) h
  | k + 1, [], M, _, h => absurd (by rw [runS.eq_def]) h
  | k + 1, b :: s, M, hk, h => by
    rw [List.length_cons] at hk
    by_cases hb : 32 ≤ b
    · have hr := runS_num (np := np) (deeper := deeper) (top := top) (s := s) M hb
      have hr2 := runS_num (np := np) (deeper := deeper) (top := top) (s := s ++ t) M hb
      rw [← List.cons_append] at hr2
      rw [hr] at h ⊢
      rw [hr2]
      cases hn : numG (b :: s) with
      | none => rw [hn] at h; exact absurd rfl h
      | some vn =>
        obtain ⟨v, n⟩ := vn
        rw [hn] at h
        rw [numG_app hn]
        simp only at h ⊢
        obtain ⟨n1, n2⟩ := numG_len hn
        rw [List.length_cons] at n2
        unfold pushG at h ⊢
        by_cases h24 : M.wait.length = 24
        · rw [if_pos h24, if_pos h24]
        · rw [if_neg h24] at h ⊢
          rw [if_neg h24, List.drop_append_of_le_length (by rw [List.length_cons]; omega)]
          exact runS_more t k _ _ (by rw [List.length_drop, List.length_cons]; omega) h
    · have hr := runS_op (np := np) (deeper := deeper) (top := top) (s := s) M hb
      have hr2 := runS_op (np := np) (deeper := deeper) (top := top) (s := s ++ t) M hb
      rw [← List.cons_append] at hr2
      rw [hr] at h ⊢
      rw [hr2]
      have hthen : ∀ r : GR, thenG r (runS np deeper top s) ≠ .bad 4 → thenG r (runS np deeper top (s ++ t)) = thenG r (runS np deeper top s) := by
        intro r hne
        cases r with
        | bad e => rfl
        | ok M2 =>
          simp only [thenG] at hne ⊢
          by_cases ho : M2.over = true
          · rw [if_pos ho, if_pos ho]
          · rw [if_neg ho] at hne ⊢
            rw [if_neg ho]
            exact runS_more t k s M2 (by omega) hne
      by_cases h1 : 1000 < M.ops + 1
      · rw [if_pos h1, if_pos h1]
      · rw [if_neg h1] at h ⊢
        rw [if_neg h1]
        by_cases h8 : b = 8
        · rw [if_pos h8] at h ⊢; rw [if_pos h8]; exact hthen _ h
        · rw [if_neg h8] at h ⊢
          rw [if_neg h8]
          by_cases h9 : b = 9
          · rw [if_pos h9, if_pos h9]
          · rw [if_neg h9] at h ⊢; rw [if_neg h9]; exact hthen _ h
/-- A coded program that is cut ends too early. -/
theorem code_cut {l : List Sg} {wide : Int} (hm : mayB l = true) (hw : 0 ≤ wide ∧ wide ≤ 8191) {k : Nat} (hk : k < (codeS l wide).length) (hl : (codeS l wide).length ≤ 600) : RunG ((codeS l wide).take k) = (([], 0), 4) := by
  cases k with
  | zero => rfl
  | succ k =>
    have he : codeS l wide = 0 :: ((putG wide ++ 1 :: bodyG 0 0 0 0 l) ++ [10]) := by simp [codeS]
    have hlen : (codeS l wide).length = (putG wide ++ 1 :: bodyG 0 0 0 0 l).length + 2 := by rw [he]; simp only [List.length_cons, List.length_append, List.length_nil]
    have ht : (codeS l wide).take (k + 1) = 0 :: ((putG wide ++ 1 :: bodyG 0 0 0 0 l).take k) := by
      rw [he, List.take_succ_cons, List.take_append_of_le_length (by omega)]
    rw [ht, RunG_zero (by rw [List.length_take]; omega)]
    obtain ⟨M', _, _, _, _, _, a6⟩ := run_code (deeper := fun k M => runD [] 3 false (([] : List (List Nat))[k]?.getD []) M) hm hw []
    rw [List.append_nil] at a6
    have hbad : runS 0 (fun k M => runD [] 3 false (([] : List (List Nat))[k]?.getD []) M) true (putG wide ++ 1 :: bodyG 0 0 0 0 l) startG = .bad 4 := by
      rw [a6, runS.eq_def]
    have hcut : runS 0 (fun k M => runD [] 3 false (([] : List (List Nat))[k]?.getD []) M) true ((putG wide ++ 1 :: bodyG 0 0 0 0 l).take k) startG = .bad 4 := by
      apply Classical.byContradiction
      intro hne
      have := runS_more ((putG wide ++ 1 :: bodyG 0 0 0 0 l).drop k) _ _ _ (Nat.le_refl _) hne
      rw [List.take_append_drop, hbad] at this
      exact hne this.symm
    rw [hcut]; rfl
theorem putG_len (v : Int) : (putG v).length ≤ 3 ∧ (-1131 ≤ v ∧ v ≤ 1131 → (putG v).length ≤ 2) := by
  unfold putG
  split
  · simp
  · split
    · simp
    · split
      · simp
      · exact ⟨by simp, fun h => by omega⟩
/-- A number on a small page. -/
def Sml (v : Int) : Prop := -500 ≤ v ∧ v ≤ 500
theorem bodyG_len : ∀ (l : List Sg) (x y bx by_ : Int), Sml x → Sml y → Sml bx → Sml by_ → (∀ s ∈ l, Sml s.x ∧ Sml s.y ∧ Sml s.cx ∧ Sml s.cy) → (bodyG x y bx by_ l).length ≤ 9 * l.length
  | [], _, _, _, _, _, _, _, _, _ => by simp [bodyG]
  | s :: l, x, y, bx, by_, hx, hy, hbx, hby, h => by
    obtain ⟨s1, s2, s3, s4⟩ := h s (by simp)
    have hr : ∀ t ∈ l, Sml t.x ∧ Sml t.y ∧ Sml t.cx ∧ Sml t.cy := fun t ht => h t (by simp [ht])
    have d : ∀ a b : Int, Sml a → Sml b → (putG (a - b)).length ≤ 2 := fun a b ha hb => (putG_len _).2 (by unfold Sml at ha hb; omega)
    have d1 := d _ _ s1 hx
    have d2 := d _ _ s2 hy
    have d3 := d _ _ s3 hx
    have d4 := d _ _ s4 hy
    unfold bodyG
    split
    · have := bodyG_len l bx by_ bx by_ hbx hby hbx hby hr
      simp only [List.length_cons]; omega
    · split
      · have := bodyG_len l s.x s.y s.x s.y s1 s2 s1 s2 hr
        simp only [List.length_cons, List.length_append]; omega
      · split
        · have := bodyG_len l s.x s.y bx by_ s1 s2 hbx hby hr
          simp only [List.length_cons, List.length_append]; omega
        · have := bodyG_len l s.x s.y bx by_ s1 s2 hbx hby hr
          simp only [List.length_cons, List.length_append]; omega
theorem codeS_len {l : List Sg} (wide : Int) (h : ∀ s ∈ l, Sml s.x ∧ Sml s.y ∧ Sml s.cx ∧ Sml s.cy) : (codeS l wide).length ≤ 9 * l.length + 6 := by
  have h1 := (putG_len wide).1
  have h0 : Sml 0 := by unfold Sml; omega
  have h2 := bodyG_len l 0 0 0 0 h0 h0 h0 h0 h
  unfold codeS
  simp only [List.length_cons, List.length_append, List.length_nil]; omega
end Go.Proofs.Ytbpeoejjjllieaa
