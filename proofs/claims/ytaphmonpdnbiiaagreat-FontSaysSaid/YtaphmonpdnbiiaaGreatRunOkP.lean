/- What a letter's program draws may be a path, plainly. -/
import Derived.Test.YtaphmonpdnbiiaaGreatAllP
namespace Go.Proofs.YtaphmonpdnbiiaaGreat

def KM (M : GM) : Prop := mayB M.l = true ∧ 0 ≤ M.wide ∧ M.wide ≤ 8191
def KG : GR → Prop
  | .bad _ => True
  | .ok M => KM M
theorem kg_take {M : GM} (h : KM M) {r : List Sg × Int} (hr : r.2 = 0 → mayB r.1 = true) : KG (takeG M r) := by
  unfold takeG
  split
  · rename_i h0; exact ⟨hr h0, h.2⟩
  · trivial
theorem kg_line {M : GM} (h : KM M) (a b : Int) : KG (lineG M a b) := kg_take h (on_may (.inr ⟨rfl, rfl, rfl⟩))
theorem kg_lines : ∀ (v : List Int) {M : GM}, KM M → KG (linesG M v)
  | [], M, h => by unfold linesG; exact h
  | [_], M, h => by unfold linesG; exact h
  | a :: b :: v, M, h => by
    unfold linesG
    have h1 := kg_line h a b
    split
    · trivial
    · rename_i M' he; rw [he] at h1; exact kg_lines v h1
theorem kg_width {M : GM} (h : KM M) (a : Int) : KG (widthG M a) := by
  unfold widthG
  split
  · trivial
  · split
    · trivial
    · rename_i h0; exact ⟨h.1, by simp only; omega⟩
theorem kg_op {M : GM} (h : KM M) (c : Nat) (v : List Int) : KG (opG c M v) := by
  unfold opG
  split
  · exact kg_width h _
  split
  · exact kg_take h start_may
  split
  · exact kg_lines v h
  split
  · exact kg_take h (on_may (.inl rfl))
  split
  · exact kg_line h _ _
  split
  · exact kg_line h _ _
  split
  · exact kg_take h shut_may
  · exact h
theorem kg_draw {M : GM} (h : KM M) (c : Nat) : KG (drawG c M) := by
  unfold drawG
  split
  · trivial
  · split
    · trivial
    · split
      · trivial
      · have h1 := kg_op (M := { M with wait := [] }) h c M.wait
        unfold drawnG
        split
        · trivial
        · rename_i M' he; rw [he] at h1; exact h1
theorem kg_then {r : GR} (h : KG r) {k : GM → GR} (hk : ∀ M, KM M → KG (k M)) : KG (thenG r k) := by
  unfold thenG
  cases r with
  | bad e => trivial
  | ok M =>
    simp only
    split
    · exact h
    · exact hk M h
theorem kg_push {M : GM} (h : KM M) (v : Int) {k : GM → GR} (hk : ∀ M, KM M → KG (k M)) : KG (pushG M v k) := by
  unfold pushG
  split
  · trivial
  · exact hk _ h
theorem kg_call {M : GM} (h : KM M) {np : Nat} {dp : Nat → GM → GR} (hd : ∀ k M, KM M → KG (dp k M)) : KG (callG np dp M) := by
  unfold callG
  split
  · trivial
  · split
    · trivial
    · exact hd _ _ h
theorem kg_runS {np : Nat} {dp : Nat → GM → GR} {top : Bool} (hd : ∀ k M, KM M → KG (dp k M)) : ∀ (n : Nat) (s : List Nat), s.length ≤ n → ∀ M, KM M → KG (runS np dp top s M)
  | _, [], _, M, _ => by unfold runS; trivial
  | n + 1, b :: s, hs, M, h => by
    simp only [List.length_cons] at hs
    by_cases hb : 32 ≤ b
    · rw [runS_num M hb]
      split
      · trivial
      · rename_i v k hv
        have hl := numG_len hv
        simp only [List.length_cons] at hl
        exact kg_push h v fun M' h' => kg_runS hd n _ (by simp only [List.length_drop, List.length_cons]; omega) M' h'
    · rw [runS_op M hb]
      split
      · trivial
      split
      · exact kg_then (kg_call (M := { M with ops := M.ops + 1 }) h hd) fun M' h' => kg_runS hd n s (by omega) M' h'
      split
      · split
        · trivial
        · exact h
      · exact kg_then (kg_draw (M := { M with ops := M.ops + 1 }) h b) fun M' h' => kg_runS hd n s (by omega) M' h'
theorem kg_runD (P : List (List Nat)) : ∀ (d : Nat) (top : Bool) (s : List Nat) (M : GM), KM M → KG (runD P d top s M)
  | 0, top, s, M, h => by unfold runD; exact kg_runS (dp := fun _ _ => .bad 5) (fun _ _ _ => trivial) s.length s (Nat.le_refl _) M h
  | d + 1, top, s, M, h => by unfold runD; exact kg_runS (fun k M' h' => kg_runD P d false _ M' h') s.length s (Nat.le_refl _) M h
/-- What is drawn may be a path, and so wide. -/
theorem run_ok (p : List Nat) : mayB (RunG p).1.1 = true ∧ 0 ≤ (RunG p).1.2 ∧ (RunG p).1.2 ≤ 8191 := by
  unfold RunG
  split
  · have h := kg_runD (splitG p).1.1 4 true (splitG p).1.2 startG ⟨rfl, by decide, by decide⟩
    unfold endG
    split
    · exact ⟨rfl, Int.le_refl 0, by show (0 : Int) ≤ 8191; decide⟩
    · rename_i M he; rw [he] at h; exact h
  · exact ⟨rfl, Int.le_refl 0, by show (0 : Int) ≤ 8191; decide⟩
end Go.Proofs.YtaphmonpdnbiiaaGreat
