/- The frame of a law's proof: it returns true and leaves all that was there; arguments opened. -/
import Derived.Test.YtdfkbbcoolgfiaaGreatRows
import Derived.Test.YtdfkbbcoolgfiaaGreatMNum
import Derived.ProofKit
import Derived.SizedLaws
import Derived.Deep.Slices
namespace Go.Proofs.YtdfkbbcoolgfiaaGreat
open Go.ChangeShapes Go.WideShapes Go.ChangeAt Go.RowKit

theorem wf_i16 {n : Int} (h : (Lit.int .i16 n).wf = true) : -32768 ≤ n ∧ n ≤ 32767 := by
  have h1 : (decide ((-32768 : Int) ≤ n) && decide (n ≤ 32767)) = true := h
  simpa using h1
theorem wf_u8 {n : Int} (h : (Lit.int .u8 n).wf = true) : 0 ≤ n ∧ n ≤ 255 := by
  have h1 : (decide ((0 : Int) ≤ n) && decide (n ≤ 255)) = true := h
  simpa using h1
set_option maxRecDepth 100000 in
theorem own0 : ownKnob Tryz.prog.godebug = none := by kernel_rfl
theorem laidOut0 : laidOutB Tryz.prog = true := by kernel_rfl
set_option maxRecDepth 100000 in
theorem cells_int : Tryz.prog.cellsOf 3 = 1 := by kernel_rfl

section
variable {H : Type} {enc : TypeId × Value → H}

set_option maxRecDepth 100000 in
theorem trodAll_below {W W' : World} (hb : Below W.heap.size W W') : ∀ (ts : List TypeId) (vs : List Value) (ds : List (DataW H)) (ps : List MemPlace),
    (∀ t ∈ ts, Tryz.prog.readableRec t = true ∧ t < Tryz.prog.types.size) → DataW.TrodAll enc Tryz.prog W 0 (fun _ => true) true ts vs ds ps → (∀ x ∈ ps, x.block < W.heap.size) →
    DataW.TrodAll enc Tryz.prog W' 0 (fun b => decide (b < W.heap.size)) true ts vs ds ps
  | [], [], [], ps, _, h, _ => h
  | t :: ts, v :: vs, d :: ds, ps, ht, h, hlt => by
    obtain ⟨p, q, hp, hq, rfl⟩ := h
    exact ⟨p, q, Below.trod laidOut0 (ht t (by simp)).1 (ht t (by simp)).2 hp hb (fun x hx => hlt x (by simp [hx])), trodAll_below hb ts vs ds q (fun t' h' => ht t' (by simp [h'])) hq (fun x hx => hlt x (by simp [hx])), rfl⟩
  | [], _ :: _, _, _, _, h, _ => by cases h
  | [], [], _ :: _, _, _, h, _ => by cases h
  | _ :: _, [], _, _, _, h, _ => by cases h
  | _ :: _, _ :: _, [], _, _, h, _ => by cases h

set_option maxRecDepth 100000 in
/-- What the row asks behind the call: it returned true, and all that was there is as it was. -/
theorem law_post {f : Func} {s : ChangeSpec} {W W' : World} {args : Array Value} {ds : List (DataW H)} {gs : List (DataW H)} {before : List MemPlace}
    (hW : DataW.Whole enc Tryz.prog f.params.toList s.vars false W args.toList ds gs before) (hts : ∀ t ∈ f.params.toList, Tryz.prog.readableRec t = true ∧ t < Tryz.prog.types.size) (hv : s.vars = []) (hr : f.resultTypes = #[4])
    (hs : s.fn H (ds ++ gs) = { results := [.lit (.bool true)], args := ds }) (hb : Below W.heap.size W W') : s.post enc Tryz.prog f false true false false W args (.bool true) W' := by
  have hW2 := hW
  obtain ⟨p, q, hA, hV, rfl, hz, hn⟩ := hW
  rw [hv] at hV
  obtain ⟨rfl, rfl⟩ := trodVars_none hV
  have hlt : ∀ x ∈ p, x.block < W.heap.size := fun x hx => hW2.lt x (by simp [hx])
  refine ⟨ds, [], p ++ [], [], p, [], hW2, ?_, ?_, ?_, hb.frame _, fun h => by cases h⟩
  · rw [hs, hr]; exact trodAll_mk1 (shut_bool Tryz.underlying4 true)
  · rw [hs]; exact trodAll_below hb _ _ _ _ hts hA hlt
  · rw [hs, hv]; exact rfl
set_option maxRecDepth 100000 in
/-- A slice of numbers that came in. -/
theorem open_ia {W : World} {v : Value} {d : DataW H} {p : List MemPlace} {base : Nat} (hv : Value.okWide Tryz.prog W .any base 28 v) (h : DataW.Trod enc Tryz.prog W 0 (fun _ => true) true 28 v d p) :
    ∃ A n c, v = .slice A n c ∧ InA W A n ∧ n ≤ c ∧ c ≤ 9223372036854775807 := by
  obtain ⟨A, n, c, rfl⟩ := okWide_slice Tryz.underlying28 hv
  obtain ⟨fuel, hf⟩ := h
  refine ⟨A, n, c, rfl, ?_⟩
  rcases open_ints Tryz.underlying28 Tryz.underlying3 cells_int hf with ⟨hcs, hx⟩ | ⟨a, n', c', zs, hcs, _, hl, hm, hz, hx, hcell, hwz⟩
  · simp [Value.cells] at hcs
    obtain ⟨rfl, rfl, rfl⟩ := hcs
    exact ⟨fun h0 => absurd h0 (by omega), by omega, by omega⟩
  · simp [Value.cells] at hcs
    obtain ⟨rfl, rfl, rfl⟩ := hcs
    simp only [if_true] at hz
    refine ⟨fun h0 => ?_, hl, by simpa [maxLen] using hm⟩
    obtain ⟨b, off, spot⟩ := a
    have hspot : spot = none := by simpa [Addr.add] using World.cell?_spot (hcell 0 (by omega))
    subst hspot
    refine ⟨b, off, rfl, block_lt_of_cell (hcell 0 (by omega)), fun j hj => ⟨zs.getD j 0, ?_⟩⟩
    have := hcell j (by omega)
    have hadd : (⟨b, off, none⟩ : Addr).add j = ⟨b, off + j, none⟩ := by unfold Addr.add; split <;> simp_all
    rwa [hadd] at this

set_option maxRecDepth 100000 in
/-- A piece's five cells. -/
theorem open_sg1 {W : World} {cs : List Value} {fuel : Nat} {x : DataW H × List MemPlace} (h : DataW.trod enc Tryz.prog W 0 (fun _ => true) true fuel 63 cs = some x) : ∃ s : Sg, cs = sgc s := by
  obtain ⟨xs, m, _, _, hlen, hxl, hf⟩ := DataW.trod_struct Tryz.underlying63 h
  have h5 : Tryz.prog.cellsOf 63 = 5 := by kernel_rfl
  rw [h5] at hlen
  match cs, hlen with
  | [c0, c1, c2, c3, c4], _ =>
    match xs, hxl with
    | [y0, y1, y2, y3, y4], _ =>
      have g0 : DataW.trod enc Tryz.prog W 0 (fun _ => true) true m 3 (([c0, c1, c2, c3, c4].drop 0).take (Tryz.prog.cellsOf 3)) = some y0 := hf 0 _ rfl
      have g1 : DataW.trod enc Tryz.prog W 0 (fun _ => true) true m 3 (([c0, c1, c2, c3, c4].drop 1).take (Tryz.prog.cellsOf 3)) = some y1 := hf 1 _ rfl
      have g2 : DataW.trod enc Tryz.prog W 0 (fun _ => true) true m 3 (([c0, c1, c2, c3, c4].drop 2).take (Tryz.prog.cellsOf 3)) = some y2 := hf 2 _ rfl
      have g3 : DataW.trod enc Tryz.prog W 0 (fun _ => true) true m 3 (([c0, c1, c2, c3, c4].drop 3).take (Tryz.prog.cellsOf 3)) = some y3 := hf 3 _ rfl
      have g4 : DataW.trod enc Tryz.prog W 0 (fun _ => true) true m 3 (([c0, c1, c2, c3, c4].drop 4).take (Tryz.prog.cellsOf 3)) = some y4 := hf 4 _ rfl
      rw [cells_int] at g0 g1 g2 g3 g4
      obtain ⟨n0, e0, _, _⟩ := DataW.trod_int Tryz.underlying3 g0
      obtain ⟨n1, e1, _, _⟩ := DataW.trod_int Tryz.underlying3 g1
      obtain ⟨n2, e2, _, _⟩ := DataW.trod_int Tryz.underlying3 g2
      obtain ⟨n3, e3, _, _⟩ := DataW.trod_int Tryz.underlying3 g3
      obtain ⟨n4, e4, _, _⟩ := DataW.trod_int Tryz.underlying3 g4
      simp at e0 e1 e2 e3 e4
      subst e0 e1 e2 e3 e4
      exact ⟨⟨n0, n1, n2, n3, n4⟩, rfl⟩

set_option maxRecDepth 100000 in
/-- A slice of pieces that came in. -/
theorem open_sl {W : World} {v : Value} {d : DataW H} {p : List MemPlace} {base : Nat} (hv : Value.okWide Tryz.prog W .any base 24 v) (h : DataW.Trod enc Tryz.prog W 0 (fun _ => true) true 24 v d p) :
    ∃ A n c, v = .slice A n c ∧ (∃ l, Sl W 5 A n (sgs l)) ∧ n ≤ c ∧ c ≤ 9223372036854775807 := by
  obtain ⟨A, n, c, rfl⟩ := okWide_slice Tryz.underlying24 hv
  obtain ⟨fuel, hf⟩ := h
  refine ⟨A, n, c, rfl, ?_⟩
  rcases Go.Deep.open_slice Tryz.underlying24 hf with ⟨hcs, hx⟩ | ⟨a, n', c', m, q, D, Pl, hcs, _, hl, hm, hmm, hx, hi⟩
  · simp [Value.cells] at hcs
    obtain ⟨rfl, rfl, rfl⟩ := hcs
    exact ⟨⟨[], Sl.nil_⟩, by omega, by omega⟩
  · simp [Value.cells] at hcs
    obtain ⟨rfl, rfl, rfl⟩ := hcs
    simp only [if_true] at hmm
    subst hmm
    have h5 : Tryz.prog.cellsOf 63 = 5 := by kernel_rfl
    have hj : ∀ i, i < n → ∃ s : Sg, ∀ j u, (sgc s)[j]? = some u → W.cell? (a.add (i * 5 + j)) = some u := fun i hin => by
      obtain ⟨cs', hc, ht⟩ := hi i (by omega)
      obtain ⟨s, rfl⟩ := open_sg1 ht
      rw [h5] at hc
      obtain ⟨_, hcl, hat⟩ := World.cells?_some hc
      refine ⟨s, fun j u hu => ?_⟩
      have hjl : j < 5 := by
        rcases Nat.lt_or_ge j 5 with h | h
        · exact h
        · rw [List.getElem?_eq_none (by simpa [sgc] using h)] at hu; cases hu
      rw [← Go.Deep.add_add, hat j hjl, hu]
    obtain ⟨f, hf2⟩ := Go.Deep.choose_lt (α := Sg) hj
    refine ⟨⟨(List.range n).map f, by rw [sgs_len]; simp, fun h0 => ?_⟩, hl, by simpa [maxLen] using hm⟩
    obtain ⟨b, off, spot⟩ := a
    have hc0 := hf2 0 h0 0 _ rfl
    have hspot : spot = none := by simpa [Addr.add] using World.cell?_spot hc0
    subst hspot
    have hadd : ∀ j, (⟨b, off, none⟩ : Addr).add j = ⟨b, off + j, none⟩ := fun j => by unfold Addr.add; split <;> simp_all
    refine ⟨b, off, rfl, by have := block_lt_of_cell hc0; rw [hadd] at this; exact this, fun j u hu => ?_⟩
    have hjl : j < n * 5 := by
      rcases Nat.lt_or_ge j (n * 5) with h | h
      · exact h
      · rw [List.getElem?_eq_none (by rw [sgs_len]; simpa using h)] at hu; cases hu
    have hdm : j / 5 * 5 + j % 5 = j := by omega
    have hk : j / 5 < n := by omega
    have hg := get_flat sgc 5 (fun _ => rfl) ((List.range n).map f) (j / 5) (j % 5) (by simpa using hk) (by omega)
    rw [hdm] at hg
    have hu' : (sgc (f (j / 5)))[j % 5]? = some u := by
      have h2 : ((List.range n).map f)[j / 5]'(by simpa using hk) = f (j / 5) := by simp
      rw [h2] at hg
      rw [← hg]; exact hu
    have := hf2 (j / 5) hk (j % 5) u hu'
    rw [hadd, hdm] at this
    exact this

end

end Go.Proofs.YtdfkbbcoolgfiaaGreat
