/- A font that came in: opened. -/
import Derived.Test.YtdfkbbcoolgfiaaGreatLaw
import Derived.Test.YtdfkbbcoolgfiaaGreatMF1
namespace Go.Proofs.YtdfkbbcoolgfiaaGreat
open Go.ChangeShapes Go.WideShapes Go.ChangeAt Go.RowKit

/-- Nine cells read as a font of any size. -/
structure FoRd (w : World) (F : Fo) (C : List Value) : Prop where
  nl : F.names.length ≤ 9223372036854775807
  ll : F.lets.length ≤ 9223372036854775807
  kl : F.kern.length ≤ 9223372036854775807
  ns : ∀ s ∈ F.names, s.size ≤ 9223372036854775807
  ls : ∀ x ∈ F.lets, x.name.size ≤ 9223372036854775807 ∧ x.prog.size ≤ 9223372036854775807
  at_ : ∃ (A B E : Option Addr) (c d e : Nat), C = foC F.m (.slice A F.names.length c) (.slice B F.lets.length d) (.slice E F.kern.length e) ∧
    Sl w 1 A F.names.length (strs F.names) ∧ Sl w 2 B F.lets.length (lecs F.lets) ∧ Sl w 3 E F.kern.length (prcs F.kern)
theorem FoRd.below {w w' : World} {F : Fo} {C : List Value} (h : FoRd w F C) (hb : Below w.heap.size w w') : FoRd w' F C := by
  obtain ⟨h1, h2, h3, h4, h5, A, B, E, c, d, e, rfl, g1, g2, g3⟩ := h
  exact ⟨h1, h2, h3, h4, h5, A, B, E, c, d, e, rfl, g1.below hb, g2.below hb, g3.below hb⟩
theorem FoRd.len {w : World} {F : Fo} {C : List Value} (h : FoRd w F C) : C.length = 9 := by
  obtain ⟨h1, h2, h3, h4, h5, A, B, E, c, d, e, rfl, g1, g2, g3⟩ := h; rfl
theorem oadd_none (b off j : Nat) : (⟨b, off, none⟩ : Addr).add j = ⟨b, off + j, none⟩ := by unfold Addr.add; split <;> simp_all
theorem strs_flat : ∀ l : List ByteArray, l.flatMap (fun s : ByteArray => [Value.string s]) = strs l
  | [] => rfl
  | a :: l => by rw [List.flatMap_cons, strs_flat l]; rfl
section
variable {H : Type} {enc : TypeId × Value → H} {W : World}
set_option maxRecDepth 100000 in
theorem cells_strF : Tryz.prog.cellsOf 9 = 1 := by kernel_rfl
set_option maxRecDepth 100000 in
/-- Things of z cells in a cell: a row of them. -/
theorem open_rowsF {α : Type} {t e : TypeId} {z : Nat} (hz : 0 < z) (hu : Tryz.prog.underlying t = some (.slice e)) (hce : Tryz.prog.cellsOf e = z) (g : α → List Value) (hg : ∀ x, (g x).length = z) (P : α → Prop)
    (hop : ∀ {cs : List Value} {fuel : Nat} {x : DataW H × List MemPlace}, DataW.trod enc Tryz.prog W 0 (fun _ => true) true fuel e cs = some x → ∃ a, cs = g a ∧ P a)
    {cs : List Value} {fuel : Nat} {x : DataW H × List MemPlace} (h : DataW.trod enc Tryz.prog W 0 (fun _ => true) true fuel t cs = some x) :
    ∃ (A : Option Addr) (c : Nat) (l : List α), cs = [.slice A l.length c] ∧ Sl W z A l.length (l.flatMap g) ∧ l.length ≤ 9223372036854775807 ∧ ∀ a ∈ l, P a := by
  rcases Go.Deep.open_slice hu h with ⟨rfl, rfl⟩ | ⟨a, n, c, m, q, D, Pl, rfl, _, hl, hm, hmm, rfl, hi⟩
  · exact ⟨none, 0, [], rfl, Sl.nil_, Nat.zero_le _, fun _ h => by cases h⟩
  · simp only [if_true] at hmm
    subst hmm
    have hj : ∀ i, i < n → ∃ p : α, (∀ j u, (g p)[j]? = some u → W.cell? (a.add (i * z + j)) = some u) ∧ P p := fun i hin => by
      obtain ⟨cs', hc, ht⟩ := hi i (by omega)
      obtain ⟨s, rfl, hp⟩ := hop ht
      rw [hce] at hc
      obtain ⟨_, hcl, hat⟩ := World.cells?_some hc
      refine ⟨s, fun j u hu => ?_, hp⟩
      have hjl : j < z := by
        rcases Nat.lt_or_ge j z with h | h
        · exact h
        · rw [List.getElem?_eq_none (by rw [hg]; exact h)] at hu; cases hu
      rw [← Go.Deep.add_add, hat j hjl, hu]
    by_cases hn0 : n = 0
    · subst hn0
      exact ⟨some a, m, [], rfl, ⟨by simp, fun h => absurd h (Nat.lt_irrefl _)⟩, Nat.zero_le _, fun _ h => by cases h⟩
    obtain ⟨p0, _⟩ := hj 0 (by omega)
    haveI : Inhabited α := ⟨p0⟩
    obtain ⟨f, hf2⟩ := Go.Deep.choose_lt (α := α) hj
    have hlen : ((List.range n).map f).length = n := by simp
    refine ⟨some a, m, (List.range n).map f, by rw [hlen], ?_, by rw [hlen]; exact Nat.le_trans hl (by simpa [maxLen] using hm), ?_⟩
    · rw [hlen]
      refine ⟨by rw [len_flat g z hg, hlen], fun h0 => ?_⟩
      obtain ⟨b, off, spot⟩ := a
      have hgl := hg (f 0)
      obtain ⟨v0, hv0⟩ : ∃ v, (g (f 0))[0]? = some v := ⟨_, List.getElem?_eq_getElem (by omega)⟩
      have hc0 := (hf2 0 h0).1 0 _ hv0
      have hspot : spot = none := by simpa [Addr.add] using World.cell?_spot hc0
      subst hspot
      refine ⟨b, off, rfl, by have := block_lt_of_cell hc0; rw [oadd_none] at this; exact this, fun j u hu => ?_⟩
      have hjl : j < n * z := by
        rcases Nat.lt_or_ge j (n * z) with h | h
        · exact h
        · rw [List.getElem?_eq_none (by rw [len_flat g z hg, hlen]; exact h)] at hu; cases hu
      have hdm : j / z * z + j % z = j := by rw [Nat.mul_comm]; exact Nat.div_add_mod j z
      have hk : j / z < n := (Nat.div_lt_iff_lt_mul hz).2 hjl
      have hgf := get_flat g z hg ((List.range n).map f) (j / z) (j % z) (by simpa using hk) (Nat.mod_lt _ hz)
      rw [hdm] at hgf
      have hu' : (g (f (j / z)))[j % z]? = some u := by
        have h2 : ((List.range n).map f)[j / z]'(by simpa using hk) = f (j / z) := by simp
        rw [h2] at hgf
        rw [← hgf]; exact hu
      have := (hf2 (j / z) hk).1 (j % z) u hu'
      rw [oadd_none, hdm] at this
      exact this
    · intro p hp
      rw [List.mem_map] at hp
      obtain ⟨i, hi', rfl⟩ := hp
      exact (hf2 i (List.mem_range.1 hi')).2
set_option maxRecDepth 100000 in
theorem open_str1 {cs : List Value} {fuel : Nat} {x : DataW H × List MemPlace} (h : DataW.trod enc Tryz.prog W 0 (fun _ => true) true fuel 9 cs = some x) : ∃ s : ByteArray, cs = [.string s] ∧ s.size ≤ 9223372036854775807 := by
  obtain ⟨s, e, _, hs⟩ := DataW.trod_string Tryz.underlying9 h
  exact ⟨s, e, by simpa [maxLen] using hs⟩
set_option maxRecDepth 100000 in
theorem open_le1 {cs : List Value} {fuel : Nat} {x : DataW H × List MemPlace} (h : DataW.trod enc Tryz.prog W 0 (fun _ => true) true fuel 145 cs = some x) : ∃ y : Le, cs = lec y ∧ (y.name.size ≤ 9223372036854775807 ∧ y.prog.size ≤ 9223372036854775807) := by
  obtain ⟨xs, m, _, _, hlen, hxl, hf⟩ := DataW.trod_struct Tryz.underlying145 h
  have h2 : Tryz.prog.cellsOf 145 = 2 := by kernel_rfl
  rw [h2] at hlen
  match cs, hlen with
  | [c0, c1], _ =>
    match xs, hxl with
    | [y0, y1], _ =>
      have g0 : DataW.trod enc Tryz.prog W 0 (fun _ => true) true m 9 (([c0, c1].drop 0).take (Tryz.prog.cellsOf 9)) = some y0 := hf 0 _ rfl
      have g1 : DataW.trod enc Tryz.prog W 0 (fun _ => true) true m 9 (([c0, c1].drop 1).take (Tryz.prog.cellsOf 9)) = some y1 := hf 1 _ rfl
      rw [cells_strF] at g0 g1
      obtain ⟨n0, e0, s0⟩ := open_str1 g0
      obtain ⟨n1, e1, s1⟩ := open_str1 g1
      simp at e0 e1
      subst e0 e1
      exact ⟨⟨n0, n1⟩, rfl, s0, s1⟩
set_option maxRecDepth 100000 in
theorem open_pr1 {cs : List Value} {fuel : Nat} {x : DataW H × List MemPlace} (h : DataW.trod enc Tryz.prog W 0 (fun _ => true) true fuel 147 cs = some x) : ∃ y : Pr, cs = prc y ∧ True := by
  obtain ⟨xs, m, _, _, hlen, hxl, hf⟩ := DataW.trod_struct Tryz.underlying147 h
  have h3 : Tryz.prog.cellsOf 147 = 3 := by kernel_rfl
  rw [h3] at hlen
  match cs, hlen with
  | [c0, c1, c2], _ =>
    match xs, hxl with
    | [y0, y1, y2], _ =>
      have g0 : DataW.trod enc Tryz.prog W 0 (fun _ => true) true m 9 (([c0, c1, c2].drop 0).take (Tryz.prog.cellsOf 9)) = some y0 := hf 0 _ rfl
      have g1 : DataW.trod enc Tryz.prog W 0 (fun _ => true) true m 9 (([c0, c1, c2].drop 1).take (Tryz.prog.cellsOf 9)) = some y1 := hf 1 _ rfl
      have g2 : DataW.trod enc Tryz.prog W 0 (fun _ => true) true m 3 (([c0, c1, c2].drop 2).take (Tryz.prog.cellsOf 3)) = some y2 := hf 2 _ rfl
      rw [cells_strF] at g0 g1
      rw [cells_int] at g2
      obtain ⟨n0, e0, s0⟩ := open_str1 g0
      obtain ⟨n1, e1, s1⟩ := open_str1 g1
      obtain ⟨n2, e2, _, _⟩ := DataW.trod_int Tryz.underlying3 g2
      simp at e0 e1 e2
      subst e0 e1 e2
      exact ⟨⟨n0, n1, n2⟩, rfl, trivial⟩
set_option maxRecDepth 100000 in
/-- A matrix's six cells. -/
theorem open_mtF {cs : List Value} {fuel : Nat} {x : DataW H × List MemPlace} (h : DataW.trod enc Tryz.prog W 0 (fun _ => true) true fuel 23 cs = some x) : ∃ m : Mt, cs = mtC m := by
  obtain ⟨xs, m, _, _, hlen, hxl, hf⟩ := DataW.trod_struct Tryz.underlying23 h
  have h6 : Tryz.prog.cellsOf 23 = 6 := by kernel_rfl
  rw [h6] at hlen
  match cs, hlen with
  | [c0, c1, c2, c3, c4, c5], _ =>
    match xs, hxl with
    | [y0, y1, y2, y3, y4, y5], _ =>
      have g0 : DataW.trod enc Tryz.prog W 0 (fun _ => true) true m 3 (([c0, c1, c2, c3, c4, c5].drop 0).take (Tryz.prog.cellsOf 3)) = some y0 := hf 0 _ rfl
      have g1 : DataW.trod enc Tryz.prog W 0 (fun _ => true) true m 3 (([c0, c1, c2, c3, c4, c5].drop 1).take (Tryz.prog.cellsOf 3)) = some y1 := hf 1 _ rfl
      have g2 : DataW.trod enc Tryz.prog W 0 (fun _ => true) true m 3 (([c0, c1, c2, c3, c4, c5].drop 2).take (Tryz.prog.cellsOf 3)) = some y2 := hf 2 _ rfl
      have g3 : DataW.trod enc Tryz.prog W 0 (fun _ => true) true m 3 (([c0, c1, c2, c3, c4, c5].drop 3).take (Tryz.prog.cellsOf 3)) = some y3 := hf 3 _ rfl
      have g4 : DataW.trod enc Tryz.prog W 0 (fun _ => true) true m 3 (([c0, c1, c2, c3, c4, c5].drop 4).take (Tryz.prog.cellsOf 3)) = some y4 := hf 4 _ rfl
      have g5 : DataW.trod enc Tryz.prog W 0 (fun _ => true) true m 3 (([c0, c1, c2, c3, c4, c5].drop 5).take (Tryz.prog.cellsOf 3)) = some y5 := hf 5 _ rfl
      rw [cells_int] at g0 g1 g2 g3 g4 g5
      obtain ⟨n0, e0, _, _⟩ := DataW.trod_int Tryz.underlying3 g0
      obtain ⟨n1, e1, _, _⟩ := DataW.trod_int Tryz.underlying3 g1
      obtain ⟨n2, e2, _, _⟩ := DataW.trod_int Tryz.underlying3 g2
      obtain ⟨n3, e3, _, _⟩ := DataW.trod_int Tryz.underlying3 g3
      obtain ⟨n4, e4, _, _⟩ := DataW.trod_int Tryz.underlying3 g4
      obtain ⟨n5, e5, _, _⟩ := DataW.trod_int Tryz.underlying3 g5
      simp at e0 e1 e2 e3 e4 e5
      subst e0 e1 e2 e3 e4 e5
      exact ⟨⟨n0, n1, n2, n3, n4, n5⟩, rfl⟩
set_option maxRecDepth 100000 in
/-- A matrix that came in, by value. -/
theorem open_mat {v : Value} {d : DataW H} {p : List MemPlace} {base : Nat} (hv : Value.okWide Tryz.prog W .any base 23 v) (h : DataW.Trod enc Tryz.prog W 0 (fun _ => true) true 23 v d p) : ∃ m : Mt, v = mtv m := by
  obtain ⟨cs, rfl, hsz⟩ := okWide_struct Tryz.underlying23 hv
  obtain ⟨fuel, hf0⟩ := h
  obtain ⟨l⟩ := cs
  obtain ⟨m, hm⟩ := open_mtF (cs := l) hf0
  exact ⟨m, by rw [hm]; rfl⟩
set_option maxRecDepth 100000 in
set_option maxHeartbeats 1000000 in
/-- A font that came in, by value. -/
theorem open_font {v : Value} {d : DataW H} {p : List MemPlace} {base : Nat} (hv : Value.okWide Tryz.prog W .any base 56 v) (h : DataW.Trod enc Tryz.prog W 0 (fun _ => true) true 56 v d p) :
    ∃ (F : Fo) (C : List Value), v = .agg C.toArray ∧ FoRd W F C := by
  have h9 : Tryz.prog.cellsOf 56 = 9 := by kernel_rfl
  obtain ⟨cs, rfl, hsz⟩ := okWide_struct Tryz.underlying56 hv
  obtain ⟨l⟩ := cs
  rw [h9] at hsz
  obtain ⟨fuel, hf0⟩ := h
  obtain ⟨xs, m, _, _, _, hxl, hf⟩ := DataW.trod_struct Tryz.underlying56 hf0
  match l, hsz with
  | [c0, c1, c2, c3, c4, c5, c6, c7, c8], _ =>
    match xs, hxl with
    | [y0, y1, y2, y3], _ =>
      have g0 : DataW.trod enc Tryz.prog W 0 (fun _ => true) true m 23 (([c0, c1, c2, c3, c4, c5, c6, c7, c8].drop 0).take (Tryz.prog.cellsOf 23)) = some y0 := hf 0 _ rfl
      have g1 : DataW.trod enc Tryz.prog W 0 (fun _ => true) true m 52 (([c0, c1, c2, c3, c4, c5, c6, c7, c8].drop 6).take (Tryz.prog.cellsOf 52)) = some y1 := hf 1 _ rfl
      have g2 : DataW.trod enc Tryz.prog W 0 (fun _ => true) true m 53 (([c0, c1, c2, c3, c4, c5, c6, c7, c8].drop 7).take (Tryz.prog.cellsOf 53)) = some y2 := hf 2 _ rfl
      have g3 : DataW.trod enc Tryz.prog W 0 (fun _ => true) true m 54 (([c0, c1, c2, c3, c4, c5, c6, c7, c8].drop 8).take (Tryz.prog.cellsOf 54)) = some y3 := hf 3 _ rfl
      rw [show Tryz.prog.cellsOf 23 = 6 from by kernel_rfl] at g0
      rw [show Tryz.prog.cellsOf 52 = 1 from by kernel_rfl] at g1
      rw [show Tryz.prog.cellsOf 53 = 1 from by kernel_rfl] at g2
      rw [show Tryz.prog.cellsOf 54 = 1 from by kernel_rfl] at g3
      obtain ⟨M, e0⟩ := open_mtF g0
      obtain ⟨A, c, ns, e1, s1, b1, p1⟩ := open_rowsF (z := 1) (by omega) Tryz.underlying52 cells_strF (fun s : ByteArray => [.string s]) (fun _ => rfl) (fun s => s.size ≤ 9223372036854775807) open_str1 g1
      obtain ⟨B, d, ls, e2, s2, b2, p2⟩ := open_rowsF (z := 2) (by omega) Tryz.underlying53 (by kernel_rfl) lec (fun _ => rfl) (fun y => y.name.size ≤ 9223372036854775807 ∧ y.prog.size ≤ 9223372036854775807) open_le1 g2
      obtain ⟨E, e, ks, e3, s3, b3, p3⟩ := open_rowsF (z := 3) (by omega) Tryz.underlying54 (by kernel_rfl) prc (fun _ => rfl) (fun _ => True) open_pr1 g3
      simp [mtC] at e0
      simp at e1 e2 e3
      obtain ⟨rfl, rfl, rfl, rfl, rfl, rfl⟩ := e0
      subst e1 e2 e3
      rw [strs_flat] at s1
      exact ⟨⟨M, ns, ls, ks⟩, _, rfl, b1, b2, b3, p1, p2, A, B, E, c, d, e, rfl, s1, s2, s3⟩
end
end Go.Proofs.YtdfkbbcoolgfiaaGreat
