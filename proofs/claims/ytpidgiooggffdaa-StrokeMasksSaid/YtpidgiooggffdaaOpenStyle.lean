/- A style that came in, by value. -/
import Derived.Test.YtpidgiooggffdaaLaw
namespace Go.Proofs.Ytpidgiooggffdaa
open Go.ChangeShapes Go.WideShapes Go.ChangeAt Go.RowKit

set_option maxRecDepth 100000 in
theorem open_style {H : Type} {enc : TypeId × Value → H} {W : World} {v : Value} {d : DataW H} {p : List MemPlace} {base : Nat} (hv : Value.okWide Try.prog W .any base 24 v) (h : DataW.Trod enc Try.prog W 0 (fun _ => true) true 24 v d p) :
    ∃ a b c, v = .agg #[.int .i64 a, .int .i64 b, .int .i64 c] := by
  have h3 : Try.prog.cellsOf 24 = 3 := by kernel_rfl
  obtain ⟨cs, rfl, hsz⟩ := okWide_struct Try.underlying24 hv
  obtain ⟨l⟩ := cs
  rw [h3] at hsz
  obtain ⟨fuel, hf⟩ := h
  obtain ⟨xs, m, _, _, _, hxl, hg⟩ := DataW.trod_struct Try.underlying24 hf
  match l, hsz with
  | [c0, c1, c2], _ =>
    match xs, hxl with
    | [y0, y1, y2], _ =>
      have g0 : DataW.trod enc Try.prog W 0 (fun _ => true) true m 3 (([c0, c1, c2].drop 0).take (Try.prog.cellsOf 3)) = some y0 := hg 0 _ rfl
      have g1 : DataW.trod enc Try.prog W 0 (fun _ => true) true m 3 (([c0, c1, c2].drop 1).take (Try.prog.cellsOf 3)) = some y1 := hg 1 _ rfl
      have g2 : DataW.trod enc Try.prog W 0 (fun _ => true) true m 3 (([c0, c1, c2].drop 2).take (Try.prog.cellsOf 3)) = some y2 := hg 2 _ rfl
      rw [cells_int] at g0 g1 g2
      obtain ⟨n0, e0, _, _⟩ := DataW.trod_int Try.underlying3 g0
      obtain ⟨n1, e1, _, _⟩ := DataW.trod_int Try.underlying3 g1
      obtain ⟨n2, e2, _, _⟩ := DataW.trod_int Try.underlying3 g2
      simp at e0 e1 e2
      subst e0 e1 e2
      exact ⟨n0, n1, n2, rfl⟩
end Go.Proofs.Ytpidgiooggffdaa
