/- Arrays of three, of four numbers as a call's arguments. -/
import Derived.Test.YtbbffeddlgfeiaaLaw
import Derived.Laws.IdiomArrays
namespace Go.Proofs.Ytbbffeddlgfeiaa
open Go.ChangeShapes Go.WideShapes Go.ChangeAt Go.RowKit

set_option maxRecDepth 100000 in
theorem open_four {H : Type} {enc : TypeId × Value → H} {W : World} {v : Value} {d : DataW H} {p : List MemPlace} {base : Nat} (hv : Value.okWide Try.prog W .any base 37 v) (h : DataW.Trod enc Try.prog W 0 (fun _ => true) true 37 v d p) :
    ∃ a b e f : Int, v = .agg #[.int .i64 a, .int .i64 b, .int .i64 e, .int .i64 f] := by
  have h4 : Try.prog.cellsOf 37 = 4 := by kernel_rfl
  have hce : Try.prog.cellsOf 3 = 1 := by kernel_rfl
  have hsh : ∃ cs : Array Value, v = .agg cs ∧ cs.size = 4 := by
    simp only [Value.okWide, Try.underlying37] at hv
    obtain ⟨cs, q1, q2, _⟩ := hv
    exact ⟨cs, q1, by rw [q2, h4]⟩
  obtain ⟨cs, rfl, hsz⟩ := hsh
  obtain ⟨l⟩ := cs
  obtain ⟨fuel, hf⟩ := h
  match l, hsz with
  | [c0, c1, c2, c3], _ =>
    obtain ⟨y0, y1, y2, y3, m, _, g0, g1, g2, g3⟩ := trod_array4 Try.underlying37 hce hf
    obtain ⟨n0, e0, _, _⟩ := DataW.trod_int Try.underlying3 g0
    obtain ⟨n1, e1, _, _⟩ := DataW.trod_int Try.underlying3 g1
    obtain ⟨n2, e2, _, _⟩ := DataW.trod_int Try.underlying3 g2
    obtain ⟨n3, e3, _, _⟩ := DataW.trod_int Try.underlying3 g3
    simp at e0 e1 e2 e3
    subst e0 e1 e2 e3
    exact ⟨n0, n1, n2, n3, rfl⟩
set_option maxRecDepth 100000 in
theorem open_three {H : Type} {enc : TypeId × Value → H} {W : World} {v : Value} {d : DataW H} {p : List MemPlace} {base : Nat} (hv : Value.okWide Try.prog W .any base 33 v) (h : DataW.Trod enc Try.prog W 0 (fun _ => true) true 33 v d p) :
    ∃ a b e : Int, v = .agg #[.int .i64 a, .int .i64 b, .int .i64 e] := by
  have h4 : Try.prog.cellsOf 33 = 3 := by kernel_rfl
  have hce : Try.prog.cellsOf 3 = 1 := by kernel_rfl
  have hsh : ∃ cs : Array Value, v = .agg cs ∧ cs.size = 3 := by
    simp only [Value.okWide, Try.underlying33] at hv
    obtain ⟨cs, q1, q2, _⟩ := hv
    exact ⟨cs, q1, by rw [q2, h4]⟩
  obtain ⟨cs, rfl, hsz⟩ := hsh
  obtain ⟨l⟩ := cs
  obtain ⟨fuel, hf⟩ := h
  match l, hsz with
  | [c0, c1, c2], _ =>
    obtain ⟨y0, y1, y2, m, _, g0, g1, g2⟩ := trod_array3 Try.underlying33 hce hf
    obtain ⟨n0, e0, _, _⟩ := DataW.trod_int Try.underlying3 g0
    obtain ⟨n1, e1, _, _⟩ := DataW.trod_int Try.underlying3 g1
    obtain ⟨n2, e2, _, _⟩ := DataW.trod_int Try.underlying3 g2
    simp at e0 e1 e2
    subst e0 e1 e2
    exact ⟨n0, n1, n2, rfl⟩
end Go.Proofs.Ytbbffeddlgfeiaa
