/- StateLetters is proved: for every input the call returns true, and what was there is as it was. No condition. -/
import Derived.Test.YtdfkbbcoolgfiaaGreatLaw
import Derived.Test.YtdfkbbcoolgfiaaGreatStateLetters
import Derived.ChangeMaps5
import Derived.Test.YtdfkbbcoolgfiaaGreatMOp
import Derived.HandedShaped
namespace Go.Proofs.YtdfkbbcoolgfiaaGreat
open Go.ChangeShapes Go.WideShapes Go.ChangeAt Go.RowKit

set_option maxRecDepth 100000 in
theorem stateLetters_lifted (os : Os) (started : os.Started) (H : Type) (enc : TypeId × Value → H) :
    ReturnsInHanded {} Tryz.checked os 4 .any (Rows.stateLettersSpec.pre6 enc Tryz.prog Tryz.f4 Rows.stateLettersRow.domain false) (Rows.stateLettersSpec.post enc Tryz.prog Tryz.f4 false true false false) := by
  refine returnsInHanded_of_change_shaped (C := Tryz.checked) own0 started (by kernel_rfl) Tryz.func4
    (ChangeSpec.witness6 (enc := enc) (C := Tryz.checked) false ⟨#[], #[.agg (stC zeroS (.slice none 0 0) (.slice none 0 0) (.slice none 0 0)).toArray, .agg #[.int .i64 0, .int .i64 0, .int .i64 0, .int .i64 0, .int .i64 0, .int .i64 0, .slice none 0 0, .slice none 0 0, .slice none 0 0], .string { data := #[] }], []⟩ 8 (by kernel_rfl) (by kernel_rfl) (by kernel_rfl) (by kernel_rfl)) ?_
  intro W base args ds gs before hval0 hW _ hsz _ _
  have hval : ∀ (j : Nat) t v, Tryz.f4.params[j]? = some t → args[j]? = some v → Value.okWide Tryz.prog W .any base t v := hval0
  have hW' : DataW.Whole enc Tryz.prog Tryz.f4.params.toList Rows.stateLettersSpec.vars false W args.toList ds gs before := hW
  obtain ⟨p, q, hA0, hV, _, _, _⟩ := hW
  have hA : DataW.TrodAll enc Tryz.prog W 0 (fun _ => true) true Tryz.f4.params.toList args.toList ds p := hA0
  rw [Tryz.params4] at hA hval
  obtain ⟨v0, v1, v2, d0, d1, d2, p0, p1, p2, rfl, rfl, rfl, h0, h1, h2⟩ := trodAll_three hA
  obtain ⟨rfl, rfl⟩ := trodVars_none hV
  have hw0 : (d0.weights Tryz.prog 32).all (· ≤ reachBytes) = true := by
    have hz := hsz
    rw [Tryz.params4] at hz
    simp only [DataW.weightsEach, List.cons_append, List.nil_append, List.all_append, Bool.and_eq_true] at hz
    exact hz.1
  obtain ⟨x0, P0, C0, D0, rfl, hst0, hrc0⟩ := open_state (hval 0 32 v0 rfl rfl) h0 hw0
  obtain ⟨F1, C1, rfl, hR1⟩ := open_font (hval 1 56 v1 rfl rfl) h1
  obtain ⟨k2, rfl, _, _, hks2⟩ := Go.ChangeMaps.open_string Tryz.underlying9 (hval 2 9 v2 rfl rfl) h2
  refine (StateLetters_any x0 P0 C0 D0 F1 C1 k2 W hst0 hrc0 hR1 hks2).mono fun e W' ⟨he, hb⟩ => ⟨_, he, ?_⟩
  exact law_post hW' (by rw [Tryz.params4]; intro t ht; simp only [List.mem_cons, List.not_mem_nil, or_false] at ht; rcases ht with rfl | rfl | rfl <;> exact ⟨by kernel_rfl, of_decide_eq_true (by kernel_rfl)⟩) rfl rfl rfl hb

theorem stateLetters_holds : Rows.StateLettersSaid :=
  OpenClaim.holds_of_wide 4 Tryz.f4 rfl rfl rfl rfl rfl rfl rfl ⟨rfl, rfl, rfl, rfl, rfl⟩ rfl rfl rfl rfl rfl (by kernel_rfl) Tryz.func4 (by kernel_rfl)
    (of_decide_eq_true (by kernel_rfl)) (by unfold Func.isWrapper; first | (rw [if_pos (by decide +kernel)]; kernel_rfl) | (rw [if_neg (by decide +kernel)]; exact ⟨rfl, rfl⟩))
    (fun os started H enc _ => stateLetters_lifted os started H enc)

end Go.Proofs.YtdfkbbcoolgfiaaGreat
