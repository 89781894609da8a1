/- A picture and a matrix that came in: opened. -/
import Derived.Test.YtdfkbbcoolgfiaaGreatMOp
import Derived.Test.YtdfkbbcoolgfiaaGreatImg
namespace Go.Proofs.YtdfkbbcoolgfiaaGreat
open Go.ChangeShapes Go.WideShapes Go.ChangeAt Go.RowKit

section
variable {H : Type} {enc : TypeId × Value → H} {W : World}
set_option maxRecDepth 100000 in
/-- A matrix that came in, by value. -/
theorem open_matv {v : Value} {d : DataW H} {p : List MemPlace} {base : Nat} (hv : Value.okWide Tryz.prog W .any base 23 v) (h : DataW.Trod enc Tryz.prog W 0 (fun _ => true) true 23 v d p) : ∃ m : Mt, v = mtv m := by
  obtain ⟨cs, rfl, hsz⟩ := okWide_struct Tryz.underlying23 hv
  obtain ⟨fuel, hf0⟩ := h
  obtain ⟨l⟩ := cs
  obtain ⟨m, hm⟩ := open_mt1 (cs := l) hf0
  exact ⟨m, by rw [hm]; rfl⟩
set_option maxRecDepth 100000 in
/-- A picture that came in, by value. -/
theorem open_im {v : Value} {d : DataW H} {p : List MemPlace} {base : Nat} (hv : Value.okWide Tryz.prog W .any base 34 v) (h : DataW.Trod enc Tryz.prog W 0 (fun _ => true) true 34 v d p) : ∃ i : Im, v = imv i ∧ i.d.size ≤ 9223372036854775807 := by
  obtain ⟨cs, rfl, hsz⟩ := okWide_struct Tryz.underlying34 hv
  obtain ⟨l⟩ := cs
  rw [show Tryz.prog.cellsOf 34 = 4 from by kernel_rfl] at hsz
  obtain ⟨fuel, hf0⟩ := h
  obtain ⟨xs, m, _, _, _, hxl, hf⟩ := DataW.trod_struct Tryz.underlying34 hf0
  match l, hsz with
  | [c0, c1, c2, c3], _ =>
    match xs, hxl with
    | [y0, y1, y2, y3], _ =>
      have g0 : DataW.trod enc Tryz.prog W 0 (fun _ => true) true m 3 (([c0, c1, c2, c3].drop 0).take (Tryz.prog.cellsOf 3)) = some y0 := hf 0 _ rfl
      have g1 : DataW.trod enc Tryz.prog W 0 (fun _ => true) true m 3 (([c0, c1, c2, c3].drop 1).take (Tryz.prog.cellsOf 3)) = some y1 := hf 1 _ rfl
      have g2 : DataW.trod enc Tryz.prog W 0 (fun _ => true) true m 3 (([c0, c1, c2, c3].drop 2).take (Tryz.prog.cellsOf 3)) = some y2 := hf 2 _ rfl
      have g3 : DataW.trod enc Tryz.prog W 0 (fun _ => true) true m 9 (([c0, c1, c2, c3].drop 3).take (Tryz.prog.cellsOf 9)) = some y3 := hf 3 _ rfl
      rw [cells_int] at g0 g1 g2
      rw [cells_str] at g3
      obtain ⟨n0, e0, _, _⟩ := DataW.trod_int Tryz.underlying3 g0
      obtain ⟨n1, e1, _, _⟩ := DataW.trod_int Tryz.underlying3 g1
      obtain ⟨n2, e2, _, _⟩ := DataW.trod_int Tryz.underlying3 g2
      obtain ⟨n3, e3, _, hs⟩ := DataW.trod_string Tryz.underlying9 g3
      simp at e0 e1 e2 e3
      subst e0 e1 e2 e3
      exact ⟨⟨n0, n1, n2, n3⟩, rfl, by simpa [maxLen] using hs⟩
end
end Go.Proofs.YtdfkbbcoolgfiaaGreat
