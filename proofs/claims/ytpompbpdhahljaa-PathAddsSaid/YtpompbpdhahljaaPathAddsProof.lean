/- PathAdds is proved: for every input the call returns true, and what was there is as it was. No condition. -/
import Derived.Test.YtpompbpdhahljaaLaw
import Derived.Test.YtpompbpdhahljaaPathAdds
import Derived.Laws.IdiomArrays
namespace Go.Proofs.Ytpompbpdhahljaa
open Go.ChangeShapes Go.WideShapes Go.ChangeAt Go.RowKit

/-- Four numbers that came in, by value. -/
theorem open_arr4 {H : Type} {enc : TypeId × Value → H} {W : World} {v : Value} {d : DataW H} {p : List MemPlace} {base : Nat} (hv : Value.okWide Try.prog W .any base 73 v) (h : DataW.Trod enc Try.prog W 0 (fun _ => true) true 73 v d p) :
    ∃ a b e f : Int, v = .agg #[.int .i64 a, .int .i64 b, .int .i64 e, .int .i64 f] ∧ (-9223372036854775808 ≤ e ∧ e ≤ 9223372036854775807) ∧ (-9223372036854775808 ≤ f ∧ f ≤ 9223372036854775807) := by
  have h4 : Try.prog.cellsOf 73 = 4 := by kernel_rfl
  have hce : Try.prog.cellsOf 3 = 1 := by kernel_rfl
  have hsh : ∃ cs : Array Value, v = .agg cs ∧ cs.size = 4 := by
    simp only [Value.okWide, Try.underlying73] at hv
    obtain ⟨cs, q1, q2, _⟩ := hv
    exact ⟨cs, q1, by rw [q2, h4]⟩
  obtain ⟨cs, rfl, hsz⟩ := hsh
  obtain ⟨l⟩ := cs
  obtain ⟨fuel, hf⟩ := h
  match l, hsz with
  | [c0, c1, c2, c3], _ =>
    obtain ⟨y0, y1, y2, y3, m, _, g0, g1, g2, g3⟩ := trod_array4 Try.underlying73 hce hf
    obtain ⟨n0, e0, _, _⟩ := DataW.trod_int Try.underlying3 g0
    obtain ⟨n1, e1, _, _⟩ := DataW.trod_int Try.underlying3 g1
    obtain ⟨n2, e2, _, w2⟩ := DataW.trod_int Try.underlying3 g2
    obtain ⟨n3, e3, _, w3⟩ := DataW.trod_int Try.underlying3 g3
    simp at e0 e1 e2 e3
    subst e0 e1 e2 e3
    refine ⟨n0, n1, n2, n3, rfl, ?_, ?_⟩
    · have h : IntKind.i64.min ≤ n2 ∧ n2 ≤ 9223372036854775807 := by simpa [Lit.wf] using w2
      rwa [show IntKind.i64.min = -9223372036854775808 by decide] at h
    · have h : IntKind.i64.min ≤ n3 ∧ n3 ≤ 9223372036854775807 := by simpa [Lit.wf] using w3
      rwa [show IntKind.i64.min = -9223372036854775808 by decide] at h

set_option maxRecDepth 100000 in
theorem pathAdds_lifted (os : Os) (started : os.Started) (H : Type) (enc : TypeId × Value → H) :
    ReturnsInHanded {} Try.checked os 15 .any (Rows.pathAddsSpec.pre6 enc Try.prog Try.f15 Rows.pathAddsRow.domain false) (Rows.pathAddsSpec.post enc Try.prog Try.f15 false true false false) := by
  refine returnsInHanded_of_change (C := Try.checked) own0 started (by kernel_rfl) Try.func15
    (ChangeSpec.witness6 (enc := enc) (C := Try.checked) false ⟨#[], #[.slice none 0 0, .slice none 0 0, .agg #[.int .i64 0, .int .i64 0, .int .i64 0, .int .i64 0]], []⟩ 8 (by kernel_rfl) (by kernel_rfl) (by kernel_rfl) (by kernel_rfl)) ?_
  intro W base args ds gs before hval0 hW _ _
  have hval : ∀ (j : Nat) t v, Try.f15.params[j]? = some t → args[j]? = some v → Value.okWide Try.prog W .any base t v := hval0
  have hW' : DataW.Whole enc Try.prog Try.f15.params.toList Rows.pathAddsSpec.vars false W args.toList ds gs before := hW
  obtain ⟨p, q, hA0, hV, _, _, _⟩ := hW
  have hA : DataW.TrodAll enc Try.prog W 0 (fun _ => true) true Try.f15.params.toList args.toList ds p := hA0
  rw [Try.params15] at hA hval
  obtain ⟨v0, v1, v2, d0, d1, d2, p0, p1, p2, rfl, rfl, rfl, h0, h1, h2⟩ := trodAll_three hA
  obtain ⟨rfl, rfl⟩ := trodVars_none hV
  obtain ⟨A0, n0, c0, rfl, ⟨l0, hl0⟩, hnc0, hcm0⟩ := open_sl (hval 0 35 v0 rfl rfl) h0
  obtain ⟨A1, n1, c1, rfl, ⟨l1, hl1⟩, hnc1, hcm1⟩ := open_sl (hval 1 35 v1 rfl rfl) h1
  obtain ⟨a, b, e0, f0, rfl, he, hf⟩ := open_arr4 (hval 2 73 v2 rfl rfl) h2
  refine (PathAdds_any A0 n0 c0 l0 A1 n1 c1 l1 a b e0 f0 W hl0 (by omega) hnc0 hl1 (by omega) he hf).mono fun e W' ⟨he, hb⟩ => ⟨_, he, ?_⟩
  exact law_post hW' (by rw [Try.params15]; intro t ht; simp only [List.mem_cons, List.not_mem_nil, or_false] at ht; rcases ht with rfl | rfl | rfl <;> exact ⟨by kernel_rfl, of_decide_eq_true (by kernel_rfl)⟩) rfl rfl rfl hb

theorem pathAdds_holds : Rows.PathAddsSaid :=
  OpenClaim.holds_of_wide 15 Try.f15 rfl rfl rfl rfl rfl rfl rfl ⟨rfl, rfl, rfl, rfl, rfl⟩ rfl rfl rfl rfl rfl (by kernel_rfl) Try.func15 (by kernel_rfl)
    (of_decide_eq_true (by kernel_rfl)) (by unfold Func.isWrapper; first | (rw [if_pos (by decide +kernel)]; kernel_rfl) | (rw [if_neg (by decide +kernel)]; exact ⟨rfl, rfl⟩))
    (fun os started H enc _ => pathAdds_lifted os started H enc)

end Go.Proofs.Ytpompbpdhahljaa
