/- FontMade, plainly: what is drawn may be a path; bytes without a letter. -/
import Derived.Test.YtaphmonpdnbiiaaGreatFontUn
import Derived.Test.YtaphmonpdnbiiaaGreatFontLe
namespace Go.Proofs.YtaphmonpdnbiiaaGreat

theorem longL_sum (l m : List Sg) : (longL l m).1.length ≤ l.length + m.length := by
  unfold longL; split <;> simp
theorem joinL_len2 (l k : List Sg) : (joinL l k).1.length ≤ l.length + k.length := by
  unfold joinL
  split
  · simp
  · split
    · exact Nat.le_trans (longL_sum _ _) (by rw [List.length_dropLast]; omega)
    · exact longL_sum _ _
theorem name3 {F : Fo} (h : MadeF F) : nameF F 3 = ByteArray.empty := by unfold nameF; rw [h.names]; rfl
theorem name4 {F : Fo} (h : MadeF F) : nameF F 4 = strD := by unfold nameF; rw [h.names]; rfl
theorem run3 {F : Fo} (h : MadeF F) : runF F 3 = (([], 0), 16) := by
  unfold runF; rw [name3 h, let_empty h.open]
theorem run4 {F : Fo} (h : MadeF F) : runF F 4 = (([], 0), 16) := by
  have hl : letF F strD = none := by
    obtain ⟨x0, x1, x2, hl, o0, o1, o2⟩ := h.lets
    have d0 : decide (strA = strD) = false := by decide +kernel
    have d1 : decide (strB = strD) = false := by decide +kernel
    have d2 : decide (strC = strD) = false := by decide +kernel
    have n0 := o0.1
    have n1 := o1.1
    have n2 := o2.1
    simp only [abc] at n0 n1 n2
    unfold letF; rw [hl]; simp only [List.find?_cons, n0, n1, n2, d0, d1, d2, List.find?_nil]
  unfold runF; rw [name4 h, hl]
theorem kern3 {F : Fo} (h : MadeF F) (c : Nat) : kernF F c 3 = 0 := by
  unfold kernF; rw [name3 h]; simp
theorem step3 {F : Fo} (h : MadeF F) (c : Nat) (s : List Nat) : stepF F c (s ++ [3]) = stepF F c s := by
  unfold stepF
  cases s with
  | nil => simp only [List.nil_append, kern3 h]
  | cons d s => rfl
theorem out_may {F : Fo} (h : MadeF F) (m : Mt) : ∀ (s : List Nat) (l : List Sg) (x y : Int), (∀ c ∈ s, c < 3) → mayB l = true → l.length + 6 * s.length ≤ 300 → mayB (outS F m l x y s).1.1 = true
  | [], l, x, y, _, hl, _ => hl
  | c :: s, l, x, y, hs, hl, hn => by
    obtain ⟨L, wd, hL, _, _, hr⟩ := h.run (hs c (by simp))
    simp only [List.length_cons] at hn
    rw [outS]
    have e : (runF F c).2 = 0 := by rw [hr]
    have e1 : (runF F c).1.1 = L := by rw [hr]
    rw [if_neg (by simpa using e), e1]
    split
    · rfl
    · rename_i hp
      have hp0 : (placeF F m x y L).2 = 0 := by simpa using hp
      have hpm := place_may (F := F) (m := m) (x := x) (y := y) hL.may hp0
      have hpl := Nat.le_trans (placeF_len F m x y L) hL.2.1
      split
      · rfl
      split
      · rfl
      split
      · rfl
      obtain ⟨J, hJ, _, hJm, _⟩ := joins hl hpm (by omega)
      have hJl := joinL_len2 l (placeF F m x y L).1
      rw [hJ] at hJl ⊢
      simp only at hJl ⊢
      exact out_may h m s J _ _ (fun d hd => hs d (by simp [hd])) hJm (by omega)
theorem out_behind {F : Fo} (h : MadeF F) (m : Mt) : ∀ (s : List Nat) (l : List Sg) (x y : Int), (outS F m l x y s).2 = 0 → (outS F m l x y (s ++ [3])).2 = 16
  | [], l, x, y, _ => by rw [List.nil_append, outS, if_pos (by rw [run3 h]; decide), run3 h]
  | c :: s, l, x, y, he => by
    rw [List.cons_append]
    rw [outS] at he ⊢
    rw [step3 h]
    split at he
    · rename_i h1; exact absurd he h1
    rename_i h1
    rw [if_neg h1]
    split at he
    · rename_i h2; exact absurd he h2
    rename_i h2
    rw [if_neg h2]
    split at he
    · rename_i h3; exact absurd he h3
    rename_i h3
    rw [if_neg h3]
    split at he
    · rename_i h4; exact absurd he h4
    rename_i h4
    rw [if_neg h4]
    split at he
    · cases he
    rename_i h5
    rw [if_neg h5]
    exact out_behind h m s _ _ _ he
/-- What FontMade says. -/
theorem made_law {F : Fo} (h : MadeF F) {m : Mt} {x y : Int} (hm : mtB m = true) (hx : fixB x = true) (hy : fixB y = true) {s : List Nat} (hs : ∀ c ∈ s, c < 3) (hl : s.length ≤ 8) :
    mayB (outF F m x y s).1.1 = true ∧ ((outF F m x y s).2 = 0 → (outF F m x y (s ++ [3])).2 = 16) ∧ (outF F m x y (4 :: s)).2 = 16 := by
  rw [outF_made h hm hx hy, outF_made h hm hx hy, outF_made h hm hx hy]
  refine ⟨out_may h m s [] x y hs rfl (by simp only [List.length_nil]; omega), out_behind h m s [] x y, ?_⟩
  rw [outS, if_pos (by rw [run4 h]; decide), run4 h]
end Go.Proofs.YtaphmonpdnbiiaaGreat
