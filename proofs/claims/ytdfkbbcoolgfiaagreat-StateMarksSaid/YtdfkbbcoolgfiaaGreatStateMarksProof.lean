/- StateMarks is proved: for every input the call returns true, and what was there is as it was. No condition. -/
import Derived.Test.YtdfkbbcoolgfiaaGreatLaw
import Derived.Test.YtdfkbbcoolgfiaaGreatStateMarks
import Derived.Test.YtdfkbbcoolgfiaaGreatOpenIm
import Derived.HandedShaped
namespace Go.Proofs.YtdfkbbcoolgfiaaGreat
open Go.ChangeShapes Go.WideShapes Go.ChangeAt Go.RowKit

set_option maxRecDepth 100000 in
theorem stateMarks_lifted (os : Os) (started : os.Started) (H : Type) (enc : TypeId × Value → H) :
    ReturnsInHanded {} Tryz.checked os 3 .any (Rows.stateMarksSpec.pre6 enc Tryz.prog Tryz.f3 Rows.stateMarksRow.domain false) (Rows.stateMarksSpec.post enc Tryz.prog Tryz.f3 false true false false) := by
  refine returnsInHanded_of_change_shaped (C := Tryz.checked) own0 started (by kernel_rfl) Tryz.func3
    (ChangeSpec.witness6 (enc := enc) (C := Tryz.checked) false ⟨#[], #[.agg (stC zeroS (.slice none 0 0) (.slice none 0 0) (.slice none 0 0)).toArray, .int .i64 0, .agg #[.int .i64 0, .int .i64 0, .int .i64 0, .string { data := #[] }], .agg #[.int .i64 0, .int .i64 0, .int .i64 0, .int .i64 0, .int .i64 0, .int .i64 0], .bool false], []⟩ 8 (by kernel_rfl) (by kernel_rfl) (by kernel_rfl) (by kernel_rfl)) ?_
  intro W base args ds gs before hval0 hW _ hsz _ _
  have hval : ∀ (j : Nat) t v, Tryz.f3.params[j]? = some t → args[j]? = some v → Value.okWide Tryz.prog W .any base t v := hval0
  have hW' : DataW.Whole enc Tryz.prog Tryz.f3.params.toList Rows.stateMarksSpec.vars false W args.toList ds gs before := hW
  obtain ⟨p, q, hA0, hV, _, _, _⟩ := hW
  have hA : DataW.TrodAll enc Tryz.prog W 0 (fun _ => true) true Tryz.f3.params.toList args.toList ds p := hA0
  rw [Tryz.params3] at hA hval
  obtain ⟨v0, r0, d0, e0, p0, q0, hargs, rfl, rfl, h0, hr0⟩ := trodAll_cons hA
  obtain ⟨v1, r1, d1, e1, p1, q1, rfl, rfl, rfl, h1, hr1⟩ := trodAll_cons hr0
  obtain ⟨v2, r2, d2, e2, p2, q2, rfl, rfl, rfl, h2, hr2⟩ := trodAll_cons hr1
  obtain ⟨v3, r3, d3, e3, p3, q3, rfl, rfl, rfl, h3, hr3⟩ := trodAll_cons hr2
  obtain ⟨v4, r4, d4, e4, p4, q4, rfl, rfl, rfl, h4, hr4⟩ := trodAll_cons hr3
  obtain ⟨rfl, rfl, rfl⟩ := trodAll_nil hr4
  obtain rfl : args = #[v0, v1, v2, v3, v4] := Array.ext' hargs
  obtain ⟨rfl, rfl⟩ := trodVars_none hV
  have hw0 : (d0.weights Tryz.prog 32).all (· ≤ reachBytes) = true := by
    have hz := hsz
    rw [Tryz.params3] at hz
    simp only [DataW.weightsEach, List.cons_append, List.nil_append, List.all_append, Bool.and_eq_true] at hz
    exact hz.1
  obtain ⟨x0, P0, C0, D0, rfl, hst0, hrc0⟩ := open_state (hval 0 32 v0 rfl rfl) h0 hw0
  obtain ⟨k1, rfl, _, _, wk1⟩ := open_int Tryz.underlying3 (hval 1 3 v1 rfl rfl) h1
  obtain ⟨i2, rfl, hi2⟩ := open_im (hval 2 34 v2 rfl rfl) h2
  obtain ⟨m3, rfl⟩ := open_matv (hval 3 23 v3 rfl rfl) h3
  obtain ⟨k4, rfl, _, _⟩ := open_bool Tryz.underlying4 (hval 4 4 v4 rfl rfl) h4
  refine (StateMarks_any x0 P0 C0 D0 k1 i2 m3 k4 W hst0 hrc0 hi2).mono fun e W' ⟨he, hb⟩ => ⟨_, he, ?_⟩
  exact law_post hW' (by rw [Tryz.params3]; intro t ht; simp only [List.mem_cons, List.not_mem_nil, or_false] at ht; rcases ht with rfl | rfl | rfl | rfl | rfl <;> exact ⟨by kernel_rfl, of_decide_eq_true (by kernel_rfl)⟩) rfl rfl rfl hb

theorem stateMarks_holds : Rows.StateMarksSaid :=
  OpenClaim.holds_of_wide 3 Tryz.f3 rfl rfl rfl rfl rfl rfl rfl ⟨rfl, rfl, rfl, rfl, rfl⟩ rfl rfl rfl rfl rfl (by kernel_rfl) Tryz.func3 (by kernel_rfl)
    (of_decide_eq_true (by kernel_rfl)) (by unfold Func.isWrapper; first | (rw [if_pos (by decide +kernel)]; kernel_rfl) | (rw [if_neg (by decide +kernel)]; exact ⟨rfl, rfl⟩))
    (fun os started H enc _ => stateMarks_lifted os started H enc)

end Go.Proofs.YtdfkbbcoolgfiaaGreat
