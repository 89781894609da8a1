/- Letters' programs: the table, an operator that draws, a number. -/
import Derived.Test.YtoehkfinchnadaaGlyph3
import Derived.Laws.EntriesVeiled
namespace Go.Proofs.Ytoehkfinchnadaa
open Go.RowKit

/-- What the table tells: the function's number. -/
def fnG (code : Nat) : Option Nat :=
  if code = 1 then some 39 else if code = 2 then some 40 else if code = 3 then some 41 else if code = 11 then some 41 else if code = 4 then some 42
  else if code = 5 then some 43 else if code = 6 then some 45 else if code = 7 then some 46 else if code = 10 then some 47 else none

set_option maxHeartbeats 2000000 in
theorem table_any (c : Nat) (w : World) (hc : c < 32) :
    Calls Try.prog 31 #[.int .u8 (c : Int)] w fun e w' => Below w.heap.size w w' ∧ ((takesG c = none ∧ e = .returned (.tuple #[.agg #[.int .i64 0, .nilFunc], .bool false])) ∨ (∃ t f, takesG c = some t ∧ fnG c = some f ∧ e = .returned (.tuple #[.agg #[.int .i64 t, .func (.func f) #[] #[]], .bool true]))) := by
  have hcases : c = 1 ∨ c = 2 ∨ c = 3 ∨ c = 11 ∨ c = 4 ∨ c = 5 ∨ c = 6 ∨ c = 7 ∨ c = 10 ∨ (c ≠ 1 ∧ c ≠ 2 ∧ c ≠ 3 ∧ c ≠ 11 ∧ c ≠ 4 ∧ c ≠ 5 ∧ c ≠ 6 ∧ c ≠ 7 ∧ c ≠ 10) := by omega
  rcases hcases with rfl | rfl | rfl | rfl | rfl | rfl | rfl | rfl | rfl | ⟨h1, h2, h3, h4, h5, h6, h7, h8, h9⟩
  · go_enter Try.func31, Try.ntmps31
    go_wp2_with fail
    refine bodyPost_ret (v := .tuple #[.agg #[.int .i64 (1), .func (.func 39) #[] #[]], .bool true]) (by simp [results, Try.results31, go_sem]) rfl ?_
    exact ⟨by repeat (first | with_reducible exact Below.refl _ _ | with_reducible refine bset ?_ (Nat.le_refl _) _ | with_reducible refine bal ?_ _), .inr ⟨1, _, rfl, rfl, rfl⟩⟩
  · go_enter Try.func31, Try.ntmps31
    go_wp2_with fail
    refine bodyPost_ret (v := .tuple #[.agg #[.int .i64 (2), .func (.func 40) #[] #[]], .bool true]) (by simp [results, Try.results31, go_sem]) rfl ?_
    exact ⟨by repeat (first | with_reducible exact Below.refl _ _ | with_reducible refine bset ?_ (Nat.le_refl _) _ | with_reducible refine bal ?_ _), .inr ⟨2, _, rfl, rfl, rfl⟩⟩
  · go_enter Try.func31, Try.ntmps31
    go_wp2_with fail
    refine bodyPost_ret (v := .tuple #[.agg #[.int .i64 (2), .func (.func 41) #[] #[]], .bool true]) (by simp [results, Try.results31, go_sem]) rfl ?_
    exact ⟨by repeat (first | with_reducible exact Below.refl _ _ | with_reducible refine bset ?_ (Nat.le_refl _) _ | with_reducible refine bal ?_ _), .inr ⟨2, _, rfl, rfl, rfl⟩⟩
  · go_enter Try.func31, Try.ntmps31
    go_wp2_with fail
    refine bodyPost_ret (v := .tuple #[.agg #[.int .i64 (-1), .func (.func 41) #[] #[]], .bool true]) (by simp [results, Try.results31, go_sem]) rfl ?_
    exact ⟨by repeat (first | with_reducible exact Below.refl _ _ | with_reducible refine bset ?_ (Nat.le_refl _) _ | with_reducible refine bal ?_ _), .inr ⟨-1, _, rfl, rfl, rfl⟩⟩
  · go_enter Try.func31, Try.ntmps31
    go_wp2_with fail
    refine bodyPost_ret (v := .tuple #[.agg #[.int .i64 (4), .func (.func 42) #[] #[]], .bool true]) (by simp [results, Try.results31, go_sem]) rfl ?_
    exact ⟨by repeat (first | with_reducible exact Below.refl _ _ | with_reducible refine bset ?_ (Nat.le_refl _) _ | with_reducible refine bal ?_ _), .inr ⟨4, _, rfl, rfl, rfl⟩⟩
  · go_enter Try.func31, Try.ntmps31
    go_wp2_with fail
    refine bodyPost_ret (v := .tuple #[.agg #[.int .i64 (1), .func (.func 43) #[] #[]], .bool true]) (by simp [results, Try.results31, go_sem]) rfl ?_
    exact ⟨by repeat (first | with_reducible exact Below.refl _ _ | with_reducible refine bset ?_ (Nat.le_refl _) _ | with_reducible refine bal ?_ _), .inr ⟨1, _, rfl, rfl, rfl⟩⟩
  · go_enter Try.func31, Try.ntmps31
    go_wp2_with fail
    refine bodyPost_ret (v := .tuple #[.agg #[.int .i64 (1), .func (.func 45) #[] #[]], .bool true]) (by simp [results, Try.results31, go_sem]) rfl ?_
    exact ⟨by repeat (first | with_reducible exact Below.refl _ _ | with_reducible refine bset ?_ (Nat.le_refl _) _ | with_reducible refine bal ?_ _), .inr ⟨1, _, rfl, rfl, rfl⟩⟩
  · go_enter Try.func31, Try.ntmps31
    go_wp2_with fail
    refine bodyPost_ret (v := .tuple #[.agg #[.int .i64 (0), .func (.func 46) #[] #[]], .bool true]) (by simp [results, Try.results31, go_sem]) rfl ?_
    exact ⟨by repeat (first | with_reducible exact Below.refl _ _ | with_reducible refine bset ?_ (Nat.le_refl _) _ | with_reducible refine bal ?_ _), .inr ⟨0, _, rfl, rfl, rfl⟩⟩
  · go_enter Try.func31, Try.ntmps31
    go_wp2_with fail
    refine bodyPost_ret (v := .tuple #[.agg #[.int .i64 (0), .func (.func 47) #[] #[]], .bool true]) (by simp [results, Try.results31, go_sem]) rfl ?_
    exact ⟨by repeat (first | with_reducible exact Below.refl _ _ | with_reducible refine bset ?_ (Nat.le_refl _) _ | with_reducible refine bal ?_ _), .inr ⟨0, _, rfl, rfl, rfl⟩⟩
  · have z1 : ((c : Int) == 1) = false := by simp; omega
    have z2 : ((c : Int) == 2) = false := by simp; omega
    have z3 : ((c : Int) == 3) = false := by simp; omega
    have z4 : ((c : Int) == 11) = false := by simp; omega
    have z5 : ((c : Int) == 4) = false := by simp; omega
    have z6 : ((c : Int) == 5) = false := by simp; omega
    have z7 : ((c : Int) == 6) = false := by simp; omega
    have z8 : ((c : Int) == 7) = false := by simp; omega
    have z9 : ((c : Int) == 10) = false := by simp; omega
    have hT : takesG c = none := by unfold takesG; simp [h1, h2, h3, h4, h5, h6, h7, h8, h9]
    have HT := Lib.hid hT
    clear hT
    go_enter Try.func31, Try.ntmps31
    go_wp2_with fail
    refine bodyPost_ret (v := .tuple #[.agg #[.int .i64 0, .nilFunc], .bool false]) (by simp [results, Try.results31, go_sem]) rfl ?_
    exact ⟨by repeat (first | with_reducible exact Below.refl _ _ | with_reducible refine bset ?_ (Nat.le_refl _) _ | with_reducible refine bal ?_ _), .inl ⟨HT.out, rfl⟩⟩

/-- So many numbers wait as an operator takes. -/
def CountOK (t : Int) (n : Nat) : Prop := (t < 0 ∧ n ≠ 0 ∧ n % 2 = 0) ∨ (0 ≤ t ∧ (n : Int) = t)
theorem op_any {c f : Nat} {t : Int} (g : Nat) (P : List ByteArray) (M : GM) (v : List Int) (Av : Option Addr) (nv cv : Nat) (w : World) (hf : fnG c = some f) (ht : takesG c = some t) (hc : CountOK t nv) (h : MS w g P M) (hv : Sl w 1 Av nv (ints v)) (hne : ∀ b off, Av = some ⟨b, off, none⟩ → b ≠ g) (hn2 : nv ≤ 100) (hb : VB v) :
    Calls Try.prog f #[.pointer (some ⟨g, 0, none⟩), .slice Av nv cv] w (GPost g P w (opG c M v)) := by
  have key : ∀ k : Nat, c = k → fnG c = fnG k ∧ takesG c = takesG k ∧ opG c M v = opG k M v := fun k e => by subst e; exact ⟨rfl, rfl, rfl⟩
  have hcases : c = 1 ∨ c = 2 ∨ c = 3 ∨ c = 11 ∨ c = 4 ∨ c = 5 ∨ c = 6 ∨ c = 7 ∨ c = 10 := by
    apply Classical.byContradiction
    intro hn
    have : fnG c = none := by unfold fnG; simp only [not_or] at hn; obtain ⟨h1, h2, h3, h4, h5, h6, h7, h8, h9⟩ := hn; simp [h1, h2, h3, h4, h5, h6, h7, h8, h9]
    rw [this] at hf; cases hf
  rcases hcases with rfl | rfl | rfl | rfl | rfl | rfl | rfl | rfl | rfl <;> cases hf <;> cases ht <;> unfold CountOK at hc
  · exact width_any g P M v Av nv cv w h hv (by omega)
  · exact move_any g P M v Av nv cv w h hv (by omega) hb
  · exact lines_any g P M v Av nv cv w h hv hne (by omega) hn2 hb
  · exact lines_any g P M v Av nv cv w h hv hne (by omega) hn2 hb
  · exact bow_any g P M v Av nv cv w h hv (by omega) hb
  · exact across_any g P M v Av nv cv w h hv (by omega) hb
  · exact up_any g P M v Av nv cv w h hv (by omega) hb
  · exact shut_any g P M _ w h
  · exact end_any g P M _ w h
end Go.Proofs.Ytoehkfinchnadaa
