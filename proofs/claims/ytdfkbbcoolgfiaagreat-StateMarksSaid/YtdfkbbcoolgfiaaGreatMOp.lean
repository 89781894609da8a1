/- A state that came in: opened, its lists bounded by what a memory holds. -/
import Derived.Test.YtdfkbbcoolgfiaaGreatLaw
import Derived.Test.YtdfkbbcoolgfiaaGreatMCls
import Derived.Test.YtdfkbbcoolgfiaaGreatMSt
import Derived.Test.YtdfkbbcoolgfiaaGreatMS4
namespace Go.Proofs.YtdfkbbcoolgfiaaGreat
open Go.ChangeShapes Go.WideShapes Go.ChangeAt Go.RowKit

instance : Inhabited Cl := ⟨⟨[], 0⟩⟩
section
variable {H : Type} {enc : TypeId × Value → H} {W : World}
abbrev reach47 : Nat := 140737488351232
theorem weightsAll_mem {P : Program} {e : TypeId} {l : List (DataW H)} (h : (DataW.weightsAll P e l).all (· ≤ reachBytes) = true) : ∀ d ∈ l, (d.weights P e).all (· ≤ reachBytes) = true := by
  induction l with
  | nil => intro d hd; cases hd
  | cons a l ih =>
    rw [DataW.weightsAll, List.all_append, Bool.and_eq_true] at h
    intro d hd
    rcases List.mem_cons.1 hd with rfl | hd
    · exact h.1
    · exact ih h.2 d hd
theorem slice_bd {P : Program} {t e : TypeId} {a b : List (DataW H)} {z : Nat} (hu : P.underlying t = some (.slice e)) (hb : P.bytesOf e = z) (hz : 1 ≤ z) (h : ((DataW.slice a b).weights P t).all (· ≤ reachBytes) = true) :
    a.length + b.length ≤ reach47 ∧ (DataW.weightsAll P e a).all (· ≤ reachBytes) = true := by
  unfold DataW.weights at h
  rw [hu] at h
  simp only [List.all_cons, List.all_append, Bool.and_eq_true, decide_eq_true_eq, hb] at h
  refine ⟨?_, h.2.1⟩
  have h1 : (a.length + b.length) * z ≤ 140737488351232 := h.1
  have h2 := Nat.le_mul_of_pos_right (a.length + b.length) (show 0 < z by omega)
  show a.length + b.length ≤ 140737488351232
  omega
set_option maxRecDepth 100000 in
theorem bytes_seg : Tryz.prog.bytesOf 63 = 40 := by kernel_rfl
set_option maxRecDepth 100000 in
theorem bytes_int : Tryz.prog.bytesOf 3 = 8 := by kernel_rfl
set_option maxRecDepth 100000 in
theorem bytes_clip : Tryz.prog.bytesOf 65 = 32 := by kernel_rfl
theorem add_none (b off j : Nat) : (⟨b, off, none⟩ : Addr).add j = ⟨b, off + j, none⟩ := by unfold Addr.add; split <;> simp_all

set_option maxRecDepth 100000 in
/-- A path in a cell. -/
theorem open_path1 {cs : List Value} {fuel : Nat} {x : DataW H × List MemPlace} (h : DataW.trod enc Tryz.prog W 0 (fun _ => true) true fuel 24 cs = some x) (hw : (x.1.weights Tryz.prog 24).all (· ≤ reachBytes) = true) :
    ∃ (v : Value) (l : List Sg), cs = [v] ∧ PathV W v l ∧ l.length ≤ reach47 := by
  rcases Go.Deep.open_slice Tryz.underlying24 h with ⟨rfl, rfl⟩ | ⟨a, n, c, m, q, D, Pl, rfl, _, hl, hm, hmm, rfl, hi⟩
  · exact ⟨_, [], rfl, PathV.nil, Nat.zero_le _⟩
  · simp only [if_true] at hmm
    subst hmm
    have hb := (slice_bd Tryz.underlying24 bytes_seg (by omega) hw).1
    simp only [List.length_map, List.length_range] at hb
    have h5 : Tryz.prog.cellsOf 63 = 5 := by kernel_rfl
    have hj : ∀ i, i < n → ∃ s : Sg, ∀ j u, (sgc s)[j]? = some u → W.cell? (a.add (i * 5 + j)) = some u := fun i hin => by
      obtain ⟨cs', hc, ht⟩ := hi i (by omega)
      obtain ⟨s, rfl⟩ := open_sg1 ht
      rw [h5] at hc
      obtain ⟨_, hcl, hat⟩ := World.cells?_some hc
      refine ⟨s, fun j u hu => ?_⟩
      have hjl : j < 5 := by
        rcases Nat.lt_or_ge j 5 with h | h
        · exact h
        · rw [List.getElem?_eq_none (by simpa [sgc] using h)] at hu; cases hu
      rw [← Go.Deep.add_add, hat j hjl, hu]
    obtain ⟨f, hf2⟩ := Go.Deep.choose_lt (α := Sg) hj
    have hlen : ((List.range n).map f).length = n := by simp
    refine ⟨_, (List.range n).map f, rfl, ⟨some a, m, by rw [hlen], ?_, by rw [hlen]; exact hl, by simpa [maxLen] using hm⟩, by rw [hlen]; omega⟩
    rw [hlen]
    refine ⟨by rw [sgs_len, hlen], fun h0 => ?_⟩
    obtain ⟨b, off, spot⟩ := a
    have hc0 := hf2 0 h0 0 _ rfl
    have hspot : spot = none := by simpa [Addr.add] using World.cell?_spot hc0
    subst hspot
    refine ⟨b, off, rfl, by have := block_lt_of_cell hc0; rw [add_none] at this; exact this, fun j u hu => ?_⟩
    have hjl : j < n * 5 := by
      rcases Nat.lt_or_ge j (n * 5) with h | h
      · exact h
      · rw [List.getElem?_eq_none (by rw [sgs_len]; simpa using h)] at hu; cases hu
    have hdm : j / 5 * 5 + j % 5 = j := by omega
    have hk : j / 5 < n := by omega
    have hg := get_flat sgc 5 (fun _ => rfl) ((List.range n).map f) (j / 5) (j % 5) (by simpa using hk) (by omega)
    rw [hdm] at hg
    have hu' : (sgc (f (j / 5)))[j % 5]? = some u := by
      have h2 : ((List.range n).map f)[j / 5]'(by simpa using hk) = f (j / 5) := by simp
      rw [h2] at hg
      rw [← hg]; exact hu
    have := hf2 (j / 5) hk (j % 5) u hu'
    rw [add_none, hdm] at this
    exact this
set_option maxRecDepth 100000 in
/-- Numbers in a cell. -/
theorem open_ints1 {cs : List Value} {fuel : Nat} {x : DataW H × List MemPlace} (h : DataW.trod enc Tryz.prog W 0 (fun _ => true) true fuel 28 cs = some x) (hw : (x.1.weights Tryz.prog 28).all (· ≤ reachBytes) = true) :
    ∃ (v : Value) (l : List Int), cs = [v] ∧ IntsV W v l ∧ l.length ≤ reach47 := by
  rcases Go.Deep.open_slice Tryz.underlying28 h with ⟨rfl, rfl⟩ | ⟨a, n, c, m, q, D, Pl, rfl, _, hl, hm, hmm, rfl, hi⟩
  · exact ⟨_, [], rfl, IntsV.nil, Nat.zero_le _⟩
  · simp only [if_true] at hmm
    subst hmm
    have hb := (slice_bd Tryz.underlying28 bytes_int (by omega) hw).1
    simp only [List.length_map, List.length_range] at hb
    have hj : ∀ i, i < n → ∃ z : Int, W.cell? (a.add i) = some (.int .i64 z) := fun i hin => by
      obtain ⟨cs', hc, ht⟩ := hi i (by omega)
      obtain ⟨z, rfl, _⟩ := DataW.trod_int Tryz.underlying3 ht
      rw [cells_int, Nat.mul_one] at hc
      obtain ⟨_, hcl, hat⟩ := World.cells?_some hc
      refine ⟨z, ?_⟩
      have := hat 0 (by omega)
      rw [Go.Deep.add_add, Nat.add_zero] at this
      rw [this]; rfl
    obtain ⟨f, hf2⟩ := Go.Deep.choose_lt (α := Int) hj
    have hlen : ((List.range n).map f).length = n := by simp
    refine ⟨_, (List.range n).map f, rfl, ⟨some a, m, by rw [hlen], ?_, by rw [hlen]; exact hl, by simpa [maxLen] using hm⟩, by rw [hlen]; omega⟩
    rw [hlen]
    refine ⟨by simp [ints], fun h0 => ?_⟩
    obtain ⟨b, off, spot⟩ := a
    have hc0 := hf2 0 h0
    have hspot : spot = none := by simpa [Addr.add] using World.cell?_spot hc0
    subst hspot
    refine ⟨b, off, rfl, by have := block_lt_of_cell hc0; rw [add_none] at this; exact this, fun j u hu => ?_⟩
    have hjl : j < n := by
      rcases Nat.lt_or_ge j n with h | h
      · exact h
      · rw [List.getElem?_eq_none (by simpa [ints] using h)] at hu; cases hu
    have := hf2 j hjl
    rw [add_none] at this
    rw [this, ← hu]
    simp [ints, List.getElem?_map, List.getElem?_range hjl]
set_option maxRecDepth 100000 in
theorem cells_path : Tryz.prog.cellsOf 24 = 1 := by kernel_rfl
set_option maxRecDepth 100000 in
/-- A clip's two cells. -/
theorem open_clip1 {cs : List Value} {fuel : Nat} {x : DataW H × List MemPlace} (h : DataW.trod enc Tryz.prog W 0 (fun _ => true) true fuel 65 cs = some x) (hw : (x.1.weights Tryz.prog 65).all (· ≤ reachBytes) = true) :
    ∃ (c : Cl) (v : Value), cs = clc (c, v) ∧ PathV W v c.p ∧ c.p.length ≤ reach47 := by
  obtain ⟨xs, m, _, rfl, hlen, hxl, hf⟩ := DataW.trod_struct Tryz.underlying65 h
  have h2 : Tryz.prog.cellsOf 65 = 2 := by kernel_rfl
  rw [h2] at hlen
  match cs, hlen with
  | [c0, c1], _ =>
    match xs, hxl with
    | [y0, y1], _ =>
      have g0 : DataW.trod enc Tryz.prog W 0 (fun _ => true) true m 24 (([c0, c1].drop 0).take (Tryz.prog.cellsOf 24)) = some y0 := hf 0 _ rfl
      have g1 : DataW.trod enc Tryz.prog W 0 (fun _ => true) true m 3 (([c0, c1].drop 1).take (Tryz.prog.cellsOf 3)) = some y1 := hf 1 _ rfl
      rw [cells_path] at g0
      rw [cells_int] at g1
      unfold DataW.weights at hw
      rw [Tryz.underlying65] at hw
      have hw0 : (y0.1.weights Tryz.prog 24).all (· ≤ reachBytes) = true := by
        have hw' : ((DataW.weightsEach Tryz.prog [24, 3] [y0.1, y1.1]).all (· ≤ reachBytes)) = true := hw
        simp only [DataW.weightsEach, List.all_append, Bool.and_eq_true] at hw'
        exact hw'.1
      obtain ⟨v, l, e0, hp, hb⟩ := open_path1 g0 hw0
      obtain ⟨n1, e1, _, _⟩ := DataW.trod_int Tryz.underlying3 g1
      simp at e0 e1
      subst e0 e1
      exact ⟨⟨l, n1⟩, _, rfl, hp, hb⟩
set_option maxRecDepth 100000 in
/-- Clips in a cell. -/
theorem open_clips1 {cs : List Value} {fuel : Nat} {x : DataW H × List MemPlace} (h : DataW.trod enc Tryz.prog W 0 (fun _ => true) true fuel 25 cs = some x) (hw : (x.1.weights Tryz.prog 25).all (· ≤ reachBytes) = true) :
    ∃ (v : Value) (l : List Cl), cs = [v] ∧ ClV W v l ∧ l.length ≤ reach47 ∧ ∀ c ∈ l, c.p.length ≤ reach47 := by
  rcases Go.Deep.open_slice Tryz.underlying25 h with ⟨rfl, rfl⟩ | ⟨a, n, c, m, q, D, Pl, rfl, _, hl, hm, hmm, rfl, hi⟩
  · exact ⟨_, [], rfl, ClV.nil, Nat.zero_le _, fun _ h => by cases h⟩
  · simp only [if_true] at hmm
    subst hmm
    obtain ⟨hb, hwa⟩ := slice_bd Tryz.underlying25 bytes_clip (by omega) hw
    simp only [List.length_map, List.length_range] at hb
    have h5 : Tryz.prog.cellsOf 65 = 2 := by kernel_rfl
    have hj : ∀ i, i < n → ∃ p : Cl × Value, (∀ j u, (clc p)[j]? = some u → W.cell? (a.add (i * 2 + j)) = some u) ∧ PathV W p.2 p.1.p ∧ p.1.p.length ≤ reach47 := fun i hin => by
      obtain ⟨cs', hc, ht⟩ := hi i (by omega)
      have hwi := weightsAll_mem hwa (D i) (List.mem_map.2 ⟨i, List.mem_range.2 hin, rfl⟩)
      obtain ⟨s, v, rfl, hp, hpb⟩ := open_clip1 ht hwi
      rw [h5] at hc
      obtain ⟨_, hcl, hat⟩ := World.cells?_some hc
      refine ⟨(s, v), fun j u hu => ?_, hp, hpb⟩
      have hjl : j < 2 := by
        rcases Nat.lt_or_ge j 2 with h | h
        · exact h
        · rw [List.getElem?_eq_none (by simpa [clc] using h)] at hu; cases hu
      rw [← Go.Deep.add_add, hat j hjl, hu]
    obtain ⟨f, hf2⟩ := Go.Deep.choose_lt (α := Cl × Value) hj
    have hlen : ((List.range n).map fun i => (f i).1).length = n := by simp
    refine ⟨_, (List.range n).map fun i => (f i).1, rfl, ⟨some a, m, by rw [hlen], by rw [hlen]; exact hl, by simpa [maxLen] using hm, (List.range n).map f, by simp, ?_, ?_⟩, by rw [hlen]; omega, ?_⟩
    · rw [hlen]
      refine ⟨by rw [clcs_len]; simp, fun h0 => ?_⟩
      obtain ⟨b, off, spot⟩ := a
      have hc0 := (hf2 0 h0).1 0 _ rfl
      have hspot : spot = none := by simpa [Addr.add] using World.cell?_spot hc0
      subst hspot
      refine ⟨b, off, rfl, by have := block_lt_of_cell hc0; rw [add_none] at this; exact this, fun j u hu => ?_⟩
      have hjl : j < n * 2 := by
        rcases Nat.lt_or_ge j (n * 2) with h | h
        · exact h
        · rw [List.getElem?_eq_none (by rw [clcs_len]; simpa using h)] at hu; cases hu
      have hdm : j / 2 * 2 + j % 2 = j := by omega
      have hk : j / 2 < n := by omega
      have hg := get_flat clc 2 (fun _ => rfl) ((List.range n).map f) (j / 2) (j % 2) (by simpa using hk) (by omega)
      rw [hdm] at hg
      have hu' : (clc (f (j / 2)))[j % 2]? = some u := by
        have h2 : ((List.range n).map f)[j / 2]'(by simpa using hk) = f (j / 2) := by simp
        rw [h2] at hg
        rw [← hg]; exact hu
      have := (hf2 (j / 2) hk).1 (j % 2) u hu'
      rw [add_none, hdm] at this
      exact this
    · intro p hp
      rw [List.mem_map] at hp
      obtain ⟨i, hi', rfl⟩ := hp
      exact (hf2 i (List.mem_range.1 hi')).2.1
    · intro c hc
      rw [List.mem_map] at hc
      obtain ⟨i, hi', rfl⟩ := hc
      exact (hf2 i (List.mem_range.1 hi')).2.2
set_option maxRecDepth 100000 in
/-- A matrix's six cells. -/
theorem open_mt1 {cs : List Value} {fuel : Nat} {x : DataW H × List MemPlace} (h : DataW.trod enc Tryz.prog W 0 (fun _ => true) true fuel 23 cs = some x) : ∃ m : Mt, cs = mtC m := by
  obtain ⟨xs, m, _, _, hlen, hxl, hf⟩ := DataW.trod_struct Tryz.underlying23 h
  have h6 : Tryz.prog.cellsOf 23 = 6 := by kernel_rfl
  rw [h6] at hlen
  match cs, hlen with
  | [c0, c1, c2, c3, c4, c5], _ =>
    match xs, hxl with
    | [y0, y1, y2, y3, y4, y5], _ =>
      have g0 : DataW.trod enc Tryz.prog W 0 (fun _ => true) true m 3 (([c0, c1, c2, c3, c4, c5].drop 0).take (Tryz.prog.cellsOf 3)) = some y0 := hf 0 _ rfl
      have g1 : DataW.trod enc Tryz.prog W 0 (fun _ => true) true m 3 (([c0, c1, c2, c3, c4, c5].drop 1).take (Tryz.prog.cellsOf 3)) = some y1 := hf 1 _ rfl
      have g2 : DataW.trod enc Tryz.prog W 0 (fun _ => true) true m 3 (([c0, c1, c2, c3, c4, c5].drop 2).take (Tryz.prog.cellsOf 3)) = some y2 := hf 2 _ rfl
      have g3 : DataW.trod enc Tryz.prog W 0 (fun _ => true) true m 3 (([c0, c1, c2, c3, c4, c5].drop 3).take (Tryz.prog.cellsOf 3)) = some y3 := hf 3 _ rfl
      have g4 : DataW.trod enc Tryz.prog W 0 (fun _ => true) true m 3 (([c0, c1, c2, c3, c4, c5].drop 4).take (Tryz.prog.cellsOf 3)) = some y4 := hf 4 _ rfl
      have g5 : DataW.trod enc Tryz.prog W 0 (fun _ => true) true m 3 (([c0, c1, c2, c3, c4, c5].drop 5).take (Tryz.prog.cellsOf 3)) = some y5 := hf 5 _ rfl
      rw [cells_int] at g0 g1 g2 g3 g4 g5
      obtain ⟨n0, e0, _, _⟩ := DataW.trod_int Tryz.underlying3 g0
      obtain ⟨n1, e1, _, _⟩ := DataW.trod_int Tryz.underlying3 g1
      obtain ⟨n2, e2, _, _⟩ := DataW.trod_int Tryz.underlying3 g2
      obtain ⟨n3, e3, _, _⟩ := DataW.trod_int Tryz.underlying3 g3
      obtain ⟨n4, e4, _, _⟩ := DataW.trod_int Tryz.underlying3 g4
      obtain ⟨n5, e5, _, _⟩ := DataW.trod_int Tryz.underlying3 g5
      simp at e0 e1 e2 e3 e4 e5
      subst e0 e1 e2 e3 e4 e5
      exact ⟨⟨n0, n1, n2, n3, n4, n5⟩, rfl⟩
set_option maxRecDepth 100000 in
theorem cells_u8 : Tryz.prog.cellsOf 5 = 1 := by kernel_rfl
set_option maxRecDepth 100000 in
theorem cells_bool : Tryz.prog.cellsOf 4 = 1 := by kernel_rfl
set_option maxRecDepth 100000 in
theorem cells_str : Tryz.prog.cellsOf 9 = 1 := by kernel_rfl
set_option maxRecDepth 100000 in
/-- An ink's four cells. -/
theorem open_ink1 {cs : List Value} {fuel : Nat} {x : DataW H × List MemPlace} (h : DataW.trod enc Tryz.prog W 0 (fun _ => true) true fuel 27 cs = some x) : ∃ r g b a : Int, cs = [.int .u8 r, .int .u8 g, .int .u8 b, .int .u8 a] := by
  obtain ⟨xs, m, _, _, hlen, hxl, hf⟩ := DataW.trod_struct Tryz.underlying27 h
  have h4 : Tryz.prog.cellsOf 27 = 4 := by kernel_rfl
  rw [h4] at hlen
  match cs, hlen with
  | [c0, c1, c2, c3], _ =>
    match xs, hxl with
    | [y0, y1, y2, y3], _ =>
      have g0 : DataW.trod enc Tryz.prog W 0 (fun _ => true) true m 5 (([c0, c1, c2, c3].drop 0).take (Tryz.prog.cellsOf 5)) = some y0 := hf 0 _ rfl
      have g1 : DataW.trod enc Tryz.prog W 0 (fun _ => true) true m 5 (([c0, c1, c2, c3].drop 1).take (Tryz.prog.cellsOf 5)) = some y1 := hf 1 _ rfl
      have g2 : DataW.trod enc Tryz.prog W 0 (fun _ => true) true m 5 (([c0, c1, c2, c3].drop 2).take (Tryz.prog.cellsOf 5)) = some y2 := hf 2 _ rfl
      have g3 : DataW.trod enc Tryz.prog W 0 (fun _ => true) true m 5 (([c0, c1, c2, c3].drop 3).take (Tryz.prog.cellsOf 5)) = some y3 := hf 3 _ rfl
      rw [cells_u8] at g0 g1 g2 g3
      obtain ⟨n0, e0, _, _⟩ := DataW.trod_int Tryz.underlying5 g0
      obtain ⟨n1, e1, _, _⟩ := DataW.trod_int Tryz.underlying5 g1
      obtain ⟨n2, e2, _, _⟩ := DataW.trod_int Tryz.underlying5 g2
      obtain ⟨n3, e3, _, _⟩ := DataW.trod_int Tryz.underlying5 g3
      simp at e0 e1 e2 e3
      subst e0 e1 e2 e3
      exact ⟨n0, n1, n2, n3, rfl⟩
set_option maxRecDepth 100000 in
/-- An object's six cells. -/
theorem open_ob1 {cs : List Value} {fuel : Nat} {x : DataW H × List MemPlace} (h : DataW.trod enc Tryz.prog W 0 (fun _ => true) true fuel 30 cs = some x) : ∃ o : Ob, cs = obC o ∧ o.s.size ≤ 9223372036854775807 := by
  obtain ⟨xs, m, _, _, hlen, hxl, hf⟩ := DataW.trod_struct Tryz.underlying30 h
  have h6 : Tryz.prog.cellsOf 30 = 6 := by kernel_rfl
  rw [h6] at hlen
  match cs, hlen with
  | [c0, c1, c2, c3, c4, c5], _ =>
    match xs, hxl with
    | [y0, y1, y2, y3, y4, y5], _ =>
      have g0 : DataW.trod enc Tryz.prog W 0 (fun _ => true) true m 3 (([c0, c1, c2, c3, c4, c5].drop 0).take (Tryz.prog.cellsOf 3)) = some y0 := hf 0 _ rfl
      have g1 : DataW.trod enc Tryz.prog W 0 (fun _ => true) true m 4 (([c0, c1, c2, c3, c4, c5].drop 1).take (Tryz.prog.cellsOf 4)) = some y1 := hf 1 _ rfl
      have g2 : DataW.trod enc Tryz.prog W 0 (fun _ => true) true m 3 (([c0, c1, c2, c3, c4, c5].drop 2).take (Tryz.prog.cellsOf 3)) = some y2 := hf 2 _ rfl
      have g3 : DataW.trod enc Tryz.prog W 0 (fun _ => true) true m 3 (([c0, c1, c2, c3, c4, c5].drop 3).take (Tryz.prog.cellsOf 3)) = some y3 := hf 3 _ rfl
      have g4 : DataW.trod enc Tryz.prog W 0 (fun _ => true) true m 3 (([c0, c1, c2, c3, c4, c5].drop 4).take (Tryz.prog.cellsOf 3)) = some y4 := hf 4 _ rfl
      have g5 : DataW.trod enc Tryz.prog W 0 (fun _ => true) true m 9 (([c0, c1, c2, c3, c4, c5].drop 5).take (Tryz.prog.cellsOf 9)) = some y5 := hf 5 _ rfl
      rw [cells_int] at g0
      rw [cells_bool] at g1
      rw [cells_int] at g2
      rw [cells_int] at g3
      rw [cells_int] at g4
      rw [cells_str] at g5
      obtain ⟨n0, e0, _, _⟩ := DataW.trod_int Tryz.underlying3 g0
      obtain ⟨n1, e1, _⟩ := DataW.trod_bool Tryz.underlying4 g1
      obtain ⟨n2, e2, _, _⟩ := DataW.trod_int Tryz.underlying3 g2
      obtain ⟨n3, e3, _, _⟩ := DataW.trod_int Tryz.underlying3 g3
      obtain ⟨n4, e4, _, _⟩ := DataW.trod_int Tryz.underlying3 g4
      obtain ⟨n5, e5, _, hs⟩ := DataW.trod_string Tryz.underlying9 g5
      simp at e0 e1 e2 e3 e4 e5
      subst e0 e1 e2 e3 e4 e5
      exact ⟨⟨n0, n1, n2, n3, n4, n5⟩, rfl, by simpa [maxLen] using hs⟩
/-- Its lists are no longer than a memory holds. -/
def stReach (x : St) : Prop := x.p.length ≤ reach47 ∧ x.cl.length ≤ reach47 ∧ (∀ c ∈ x.cl, c.p.length ≤ reach47) ∧ x.da.length ≤ reach47 ∧ x.f.s.size ≤ 9223372036854775807
set_option maxRecDepth 100000 in
set_option maxHeartbeats 1000000 in
/-- A state that came in, by value. -/
theorem open_state {v : Value} {d : DataW H} {p : List MemPlace} {base : Nat} (hv : Value.okWide Tryz.prog W .any base 32 v) (h : DataW.Trod enc Tryz.prog W 0 (fun _ => true) true 32 v d p) (hw : (d.weights Tryz.prog 32).all (· ≤ reachBytes) = true) :
    ∃ (x : St) (P C D : Value), v = .agg (stC x P C D).toArray ∧ StAt W x P C D ∧ stReach x := by
  have h24 : Tryz.prog.cellsOf 32 = 24 := by kernel_rfl
  obtain ⟨cs, rfl, hsz⟩ := okWide_struct Tryz.underlying32 hv
  obtain ⟨l⟩ := cs
  rw [h24] at hsz
  obtain ⟨fuel, hf0⟩ := h
  obtain ⟨xs, m, _, hx, _, hxl, hf⟩ := DataW.trod_struct Tryz.underlying32 hf0
  have hd : d = .agg (xs.map (·.1)) := congrArg Prod.fst hx
  subst hd
  match l, hsz with
  | [c0, c1, c2, c3, c4, c5, c6, c7, c8, c9, c10, c11, c12, c13, c14, c15, c16, c17, c18, c19, c20, c21, c22, c23], _ =>
    match xs, hxl with
    | [y0, y1, y2, y3, y4, y5, y6, y7, y8, y9, y10], _ =>
      have g0 : DataW.trod enc Tryz.prog W 0 (fun _ => true) true m 23 (([c0, c1, c2, c3, c4, c5, c6, c7, c8, c9, c10, c11, c12, c13, c14, c15, c16, c17, c18, c19, c20, c21, c22, c23].drop 0).take (Tryz.prog.cellsOf 23)) = some y0 := hf 0 _ rfl
      have g1 : DataW.trod enc Tryz.prog W 0 (fun _ => true) true m 24 (([c0, c1, c2, c3, c4, c5, c6, c7, c8, c9, c10, c11, c12, c13, c14, c15, c16, c17, c18, c19, c20, c21, c22, c23].drop 6).take (Tryz.prog.cellsOf 24)) = some y1 := hf 1 _ rfl
      have g2 : DataW.trod enc Tryz.prog W 0 (fun _ => true) true m 25 (([c0, c1, c2, c3, c4, c5, c6, c7, c8, c9, c10, c11, c12, c13, c14, c15, c16, c17, c18, c19, c20, c21, c22, c23].drop 7).take (Tryz.prog.cellsOf 25)) = some y2 := hf 2 _ rfl
      have g3 : DataW.trod enc Tryz.prog W 0 (fun _ => true) true m 27 (([c0, c1, c2, c3, c4, c5, c6, c7, c8, c9, c10, c11, c12, c13, c14, c15, c16, c17, c18, c19, c20, c21, c22, c23].drop 8).take (Tryz.prog.cellsOf 27)) = some y3 := hf 3 _ rfl
      have g4 : DataW.trod enc Tryz.prog W 0 (fun _ => true) true m 3 (([c0, c1, c2, c3, c4, c5, c6, c7, c8, c9, c10, c11, c12, c13, c14, c15, c16, c17, c18, c19, c20, c21, c22, c23].drop 12).take (Tryz.prog.cellsOf 3)) = some y4 := hf 4 _ rfl
      have g5 : DataW.trod enc Tryz.prog W 0 (fun _ => true) true m 3 (([c0, c1, c2, c3, c4, c5, c6, c7, c8, c9, c10, c11, c12, c13, c14, c15, c16, c17, c18, c19, c20, c21, c22, c23].drop 13).take (Tryz.prog.cellsOf 3)) = some y5 := hf 5 _ rfl
      have g6 : DataW.trod enc Tryz.prog W 0 (fun _ => true) true m 3 (([c0, c1, c2, c3, c4, c5, c6, c7, c8, c9, c10, c11, c12, c13, c14, c15, c16, c17, c18, c19, c20, c21, c22, c23].drop 14).take (Tryz.prog.cellsOf 3)) = some y6 := hf 6 _ rfl
      have g7 : DataW.trod enc Tryz.prog W 0 (fun _ => true) true m 28 (([c0, c1, c2, c3, c4, c5, c6, c7, c8, c9, c10, c11, c12, c13, c14, c15, c16, c17, c18, c19, c20, c21, c22, c23].drop 15).take (Tryz.prog.cellsOf 28)) = some y7 := hf 7 _ rfl
      have g8 : DataW.trod enc Tryz.prog W 0 (fun _ => true) true m 3 (([c0, c1, c2, c3, c4, c5, c6, c7, c8, c9, c10, c11, c12, c13, c14, c15, c16, c17, c18, c19, c20, c21, c22, c23].drop 16).take (Tryz.prog.cellsOf 3)) = some y8 := hf 8 _ rfl
      have g9 : DataW.trod enc Tryz.prog W 0 (fun _ => true) true m 30 (([c0, c1, c2, c3, c4, c5, c6, c7, c8, c9, c10, c11, c12, c13, c14, c15, c16, c17, c18, c19, c20, c21, c22, c23].drop 17).take (Tryz.prog.cellsOf 30)) = some y9 := hf 9 _ rfl
      have g10 : DataW.trod enc Tryz.prog W 0 (fun _ => true) true m 3 (([c0, c1, c2, c3, c4, c5, c6, c7, c8, c9, c10, c11, c12, c13, c14, c15, c16, c17, c18, c19, c20, c21, c22, c23].drop 23).take (Tryz.prog.cellsOf 3)) = some y10 := hf 10 _ rfl
      rw [show Tryz.prog.cellsOf 23 = 6 from by kernel_rfl] at g0
      rw [cells_path] at g1
      rw [show Tryz.prog.cellsOf 25 = 1 from by kernel_rfl] at g2
      rw [show Tryz.prog.cellsOf 27 = 4 from by kernel_rfl] at g3
      rw [cells_int] at g4
      rw [cells_int] at g5
      rw [cells_int] at g6
      rw [show Tryz.prog.cellsOf 28 = 1 from by kernel_rfl] at g7
      rw [cells_int] at g8
      rw [show Tryz.prog.cellsOf 30 = 6 from by kernel_rfl] at g9
      rw [cells_int] at g10
      unfold DataW.weights at hw
      rw [Tryz.underlying32] at hw
      have hw' : ((DataW.weightsEach Tryz.prog [23, 24, 25, 27, 3, 3, 3, 28, 3, 30, 3] [y0.1, y1.1, y2.1, y3.1, y4.1, y5.1, y6.1, y7.1, y8.1, y9.1, y10.1]).all (· ≤ reachBytes)) = true := hw
      simp only [DataW.weightsEach, List.all_append, Bool.and_eq_true] at hw'
      obtain ⟨_, w1, w2, _, _, _, _, w7, _⟩ := hw'
      obtain ⟨M, e0⟩ := open_mt1 g0
      obtain ⟨P, pl, e1, hp, hpb⟩ := open_path1 g1 w1
      obtain ⟨C, cl, e2, hc, hcb, hcc⟩ := open_clips1 g2 w2
      obtain ⟨r, g, b, a, e3⟩ := open_ink1 g3
      obtain ⟨n4, e4, _, _⟩ := DataW.trod_int Tryz.underlying3 g4
      obtain ⟨n5, e5, _, _⟩ := DataW.trod_int Tryz.underlying3 g5
      obtain ⟨n6, e6, _, _⟩ := DataW.trod_int Tryz.underlying3 g6
      obtain ⟨D, dl, e7, hd, hdb⟩ := open_ints1 g7 w7
      obtain ⟨n8, e8, _, _⟩ := DataW.trod_int Tryz.underlying3 g8
      obtain ⟨o, e9, hob⟩ := open_ob1 g9
      obtain ⟨n10, e10, _, _⟩ := DataW.trod_int Tryz.underlying3 g10
      simp [mtC] at e0
      simp at e1 e2 e3 e4 e5 e6 e7 e8 e10
      simp [obC] at e9
      obtain ⟨rfl, rfl, rfl, rfl, rfl, rfl⟩ := e0
      obtain ⟨rfl, rfl, rfl, rfl⟩ := e3
      obtain ⟨rfl, rfl, rfl, rfl, rfl, rfl⟩ := e9
      subst e1 e2 e4 e5 e6 e7 e8 e10
      exact ⟨⟨M, pl, cl, r, g, b, a, n4, n5, n6, dl, n8, o, n10⟩, _, _, _, rfl, ⟨hp, hc, hd⟩, hpb, hcb, hcc, hdb, hob⟩
end
end Go.Proofs.YtdfkbbcoolgfiaaGreat

namespace Go.Proofs.YtdfkbbcoolgfiaaGreat
open Go.RowKit Go.BigFrame

/-- How many pieces of the first i clips. -/
def clSum (l : List Cl) (i : Nat) : Nat := ((l.take i).map fun c => c.p.length).sum
def fewB (x : St) : Bool := decide (x.p.length + x.da.length + clSum x.cl (min x.cl.length 20) < 800) && decide (x.cl.length < 20) && decide (x.f.s.size < 200)
theorem clSum_succ (l : List Cl) (i : Nat) (hi : i < l.length) : clSum l (i + 1) = clSum l i + l[i].p.length := by
  unfold clSum
  rw [List.take_succ_eq_append_getElem hi, List.map_append, List.sum_append]
  simp
theorem clSum_le {l : List Cl} {i B : Nat} (h : ∀ c ∈ l, c.p.length ≤ B) : clSum l i ≤ i * B := by
  induction i with
  | zero => simp [clSum]
  | succ i ih =>
    rcases Nat.lt_or_ge i l.length with hi | hi
    · rw [clSum_succ l i hi, Nat.succ_mul]
      have := h l[i] (List.getElem_mem hi)
      omega
    · have e : clSum l (i + 1) = clSum l i := by unfold clSum; rw [List.take_of_length_le (by omega), List.take_of_length_le hi]
      rw [e, Nat.succ_mul]; omega
theorem sum_mem {l : List Nat} {n : Nat} (h : n ∈ l) : n ≤ l.sum := by
  induction l with
  | nil => cases h
  | cons a l ih =>
    rcases List.mem_cons.1 h with rfl | h
    · simp
    · have := ih h; simp; omega
theorem fewB_few {x : St} (h : fewB x = true) : stFew x := by
  simp only [fewB, Bool.and_eq_true, decide_eq_true_eq] at h
  obtain ⟨⟨h1, h2⟩, _⟩ := h
  rw [Nat.min_eq_left (by omega)] at h1
  refine ⟨by omega, by omega, fun c hc => ?_, by omega⟩
  have : c.p.length ≤ clSum x.cl x.cl.length := by
    unfold clSum
    rw [List.take_length]
    exact sum_mem (List.mem_map.2 ⟨c, hc, rfl⟩)
  omega
set_option maxRecDepth 100000 in
set_option maxHeartbeats 4000000 in
theorem few_any (x : St) (P C D : Value) (w : World) (h : StAt w x P C D) (hr : stReach x) : Calls Tryz.prog 6 #[.agg (stC x P C D).toArray] w fun e w' => e = .returned (.bool (fewB x)) ∧ Below w.heap.size w w' := by
  obtain ⟨w0, hw0⟩ : ∃ w0 : World, w0 = w.alloc (.cells (stC x P C D).toArray 32) := ⟨_, rfl⟩
  have hB0 : Below w.heap.size w w0 := by rw [hw0]; exact bal (Below.refl _ _) _
  have hA : BC w0 w.heap.size (stC x P C D) := by rw [hw0]; exact BC.new (stC x P C D) 32 rfl
  have h0 := h.below hB0
  clear h
  obtain ⟨⟨Ap, cp, rfl, hp, hpc, hpm⟩, hcv, ⟨Ad, cd, rfl, hd, hdc, hdm⟩⟩ := h0
  obtain ⟨Ac, cc, rfl, hc, hcc, hcm⟩ := hcv.sl
  clear hcv
  obtain ⟨r1, r2, r3, r4, r5⟩ := hr
  obtain ⟨np, hnp⟩ : ∃ n, n = x.p.length := ⟨_, rfl⟩
  obtain ⟨nc, hnc⟩ : ∃ n, n = x.cl.length := ⟨_, rfl⟩
  obtain ⟨nd, hnd⟩ : ∃ n, n = x.da.length := ⟨_, rfl⟩
  obtain ⟨R, hR⟩ : ∃ R, fewB x = R := ⟨_, rfl⟩
  have HR : Hid ((decide (np + nd + clSum x.cl (min nc 20) < 800) && decide (nc < 20) && decide (x.f.s.size < 200)) = R) := Lib.hid (by rw [← hR, hnp, hnc, hnd]; rfl)
  rw [hR]
  rw [← hnp] at hA hw0 r1 hpc ⊢
  rw [← hnc] at hA hw0 r2 hcc ⊢
  rw [← hnd] at hA hw0 r4 hdc ⊢
  have HNC := Lib.hid hnc
  have HC := Lib.hid hc
  have HR3 := Lib.hid r3
  have a6 := hA.c 6 _ rfl
  have a7 := hA.c 7 _ rfl
  have a15 := hA.c 15 _ rfl
  have a22 := hA.c 22 _ rfl
  clear hnp hnc hnd hp hd hc r3 hR hA
  unfold reach47 at r1 r2 r4
  go_enter Tryz.func6, Tryz.ntmps6
  go_upto_region 1 with (fail)
  rw [← hw0]
  clear hw0
  go_wp2_with fail
  go_loopw [3, 4] (fun s3 s4 wr => ∃ i t : Nat, i ≤ 20 ∧ i ≤ nc ∧ s3 = .int .i64 (t : Int) ∧ s4 = .int .i64 (i : Int) ∧ wr = w0 ∧ t ≤ 3096224743817216 + i * 140737488351232 ∧ Hid (t = np + nd + clSum x.cl i)) (fun _ s4 _ => 20 - (intOf s4).toNat)
  case atStart => exact ⟨0, np + nd, by omega, Nat.zero_le _, by go_num, rfl, rfl, by omega, Lib.hid (by simp [clSum])⟩
  case round =>
    obtain ⟨i, t, hi, hin, rfl, rfl, rfl, ht, hts⟩ := hrel
    by_cases hlt : i < nc ∧ i < 20
    · obtain ⟨g1, g2⟩ := hlt
      have hlc : i < x.cl.length := by rw [← HNC.out]; exact g1
      obtain ⟨b, off, Ae, ce, rfl, hbl, c0, c1, hs, hce, hcm2⟩ := HC.out.get i hlc
      obtain ⟨ne, hne⟩ : ∃ n, n = x.cl[i].p.length := ⟨_, rfl⟩
      rw [← hne] at c0 hce
      have hne2 : ne ≤ 140737488351232 := by rw [hne]; exact HR3.out _ (List.getElem_mem hlc)
      have HNE := Lib.hid hne
      clear hne c1 hs
      go_wp2_with fail
      go_roundw
      case rel => exact ⟨i + 1, t + ne, by omega, by omega, by go_num, by go_num, by trivial, by omega, Lib.hid (by rw [clSum_succ x.cl i hlc, ← HNE.out, hts.out]; omega)⟩
      case measure => simp [intOf]; omega
    · have HR2 : Hid ((decide (t < 800) && decide (nc < 20) && decide (x.f.s.size < 200)) = R) := Lib.hid (by
        have e : min nc 20 = i := by omega
        rw [← HR.out, e, hts.out])
      clear hts ht HR
      by_cases q1 : i < nc
      · obtain rfl : i = 20 := by omega
        by_cases q2 : t < 800
        · by_cases q3 : nc < 20
          · by_cases q4 : x.f.s.size < 200
            · first
                | (exfalso; omega)
                | skip
              all_goals
                have HR4 := Lib.hid (show R = true by rw [← HR2.out]; simp [q2, q3, q4])
                go_wp2_with fail
                go_ret
                refine ⟨ret_bool ?_, hB0⟩
                first | (rw [HR4.out]; done) | (rw [HR4.out]; simp; done) | (rw [HR4.out]; simp; omega)
            · first
                | (exfalso; omega)
                | skip
              all_goals
                have HR4 := Lib.hid (show R = false by rw [← HR2.out]; simp [q4])
                go_wp2_with fail
                go_ret
                refine ⟨ret_bool ?_, hB0⟩
                first | (rw [HR4.out]; done) | (rw [HR4.out]; simp; done) | (rw [HR4.out]; simp; omega)
          · have HR4 := Lib.hid (show R = false by rw [← HR2.out]; simp [q3])
            go_wp2_with fail
            go_ret
            refine ⟨ret_bool ?_, hB0⟩
            first | (rw [HR4.out]; done) | (rw [HR4.out]; simp; done) | (rw [HR4.out]; simp; omega)
        · have HR4 := Lib.hid (show R = false by rw [← HR2.out]; simp [q2])
          go_wp2_with fail
          go_ret
          refine ⟨ret_bool ?_, hB0⟩
          first | (rw [HR4.out]; done) | (rw [HR4.out]; simp; done) | (rw [HR4.out]; simp; omega)
      · by_cases q2 : t < 800
        · by_cases q3 : nc < 20
          · by_cases q4 : x.f.s.size < 200
            · first
                | (exfalso; omega)
                | skip
              all_goals
                have HR4 := Lib.hid (show R = true by rw [← HR2.out]; simp [q2, q3, q4])
                go_wp2_with fail
                go_ret
                refine ⟨ret_bool ?_, hB0⟩
                first | (rw [HR4.out]; done) | (rw [HR4.out]; simp; done) | (rw [HR4.out]; simp; omega)
            · first
                | (exfalso; omega)
                | skip
              all_goals
                have HR4 := Lib.hid (show R = false by rw [← HR2.out]; simp [q4])
                go_wp2_with fail
                go_ret
                refine ⟨ret_bool ?_, hB0⟩
                first | (rw [HR4.out]; done) | (rw [HR4.out]; simp; done) | (rw [HR4.out]; simp; omega)
          · have HR4 := Lib.hid (show R = false by rw [← HR2.out]; simp [q3])
            go_wp2_with fail
            go_ret
            refine ⟨ret_bool ?_, hB0⟩
            first | (rw [HR4.out]; done) | (rw [HR4.out]; simp; done) | (rw [HR4.out]; simp; omega)
        · have HR4 := Lib.hid (show R = false by rw [← HR2.out]; simp [q2])
          go_wp2_with fail
          go_ret
          refine ⟨ret_bool ?_, hB0⟩
          first | (rw [HR4.out]; done) | (rw [HR4.out]; simp; done) | (rw [HR4.out]; simp; omega)
end Go.Proofs.YtdfkbbcoolgfiaaGreat
