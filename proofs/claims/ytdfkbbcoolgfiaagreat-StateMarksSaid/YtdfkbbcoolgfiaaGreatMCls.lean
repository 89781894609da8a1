/- Clips and states in memory. -/
import Derived.Test.YtdfkbbcoolgfiaaGreatAllP
import Derived.Test.YtdfkbbcoolgfiaaGreatMMat
import Derived.Deep.MidRow
import Derived.Laws.ResultCell
namespace Go.Proofs.YtdfkbbcoolgfiaaGreat
open Go.RowKit

/-- A clip's cells; its path is a slice value. -/
def clc (p : Cl × Value) : List Value := [p.2, .int .i64 p.1.rule]
def clcs (ps : List (Cl × Value)) : List Value := ps.flatMap clc
theorem clcs_len (ps : List (Cl × Value)) : (clcs ps).length = ps.length * 2 := len_flat clc 2 (fun _ => rfl) ps
/-- A value reads as a path. -/
def PathV (w : World) (v : Value) (l : List Sg) : Prop := ∃ A c, v = .slice A l.length c ∧ Sl w 5 A l.length (sgs l) ∧ l.length ≤ c ∧ c ≤ 9223372036854775807
/-- A value reads as numbers. -/
def IntsV (w : World) (v : Value) (l : List Int) : Prop := ∃ A c, v = .slice A l.length c ∧ Sl w 1 A l.length (ints l) ∧ l.length ≤ c ∧ c ≤ 9223372036854775807
/-- A value reads as clips. -/
def ClV (w : World) (v : Value) (l : List Cl) : Prop :=
  ∃ A c, v = .slice A l.length c ∧ l.length ≤ c ∧ c ≤ 9223372036854775807 ∧ ∃ ps : List (Cl × Value), ps.map Prod.fst = l ∧ Sl w 2 A l.length (clcs ps) ∧ ∀ p ∈ ps, PathV w p.2 p.1.p
section
variable {w w' : World} {v : Value}
theorem PathV.below {l : List Sg} (h : PathV w v l) (hb : Below w.heap.size w w') : PathV w' v l := by
  obtain ⟨A, c, e, hs, hc⟩ := h
  exact ⟨A, c, e, hs.below hb, hc⟩
theorem IntsV.below {l : List Int} (h : IntsV w v l) (hb : Below w.heap.size w w') : IntsV w' v l := by
  obtain ⟨A, c, e, hs, hc⟩ := h
  exact ⟨A, c, e, hs.below hb, hc⟩
theorem ClV.below {l : List Cl} (h : ClV w v l) (hb : Below w.heap.size w w') : ClV w' v l := by
  obtain ⟨A, c, e, h1, h2, ps, hm, hs, hp⟩ := h
  exact ⟨A, c, e, h1, h2, ps, hm, hs.below hb, fun p hpp => (hp p hpp).below hb⟩
theorem PathV.nil : PathV w (.slice none 0 0) [] := ⟨none, 0, rfl, Sl.nil_, by simp, by simp⟩
theorem IntsV.nil : IntsV w (.slice none 0 0) [] := ⟨none, 0, rfl, Sl.nil_, by simp, by simp⟩
theorem ClV.nil : ClV w (.slice none 0 0) [] := ⟨none, 0, rfl, by simp, by simp, [], rfl, Sl.nil_, by simp⟩
/-- The k-th clip's cells. -/
theorem Sl.cl {ps : List (Cl × Value)} {A : Option Addr} {n : Nat} (h : Sl w 2 A n (clcs ps)) (k : Nat) (hk : k < n) (hl : k < ps.length) :
    ∃ b off : Nat, A = some ⟨b, off, none⟩ ∧ b < w.heap.size ∧ w.cell? ⟨b, off + k * 2, none⟩ = some ps[k].2 ∧ w.cell? ⟨b, off + k * 2 + 1, none⟩ = some (.int .i64 ps[k].1.rule) := by
  obtain ⟨b, off, e, hb, hc⟩ := h.2 (by omega)
  have g : ∀ j u, j < 2 → (clc ps[k])[j]? = some u → w.cell? ⟨b, off + k * 2 + j, none⟩ = some u := fun j u hj hu => by
    rw [Nat.add_assoc]; exact hc _ u (by rw [← hu]; exact get_flat clc 2 (fun _ => rfl) ps k j hl hj)
  exact ⟨b, off, e, hb, g 0 _ (by omega) rfl, g 1 _ (by omega) rfl⟩
/-- A slice reads as clips: the k-th one. -/
def ClSl (w : World) (A : Option Addr) (l : List Cl) : Prop := ∃ ps : List (Cl × Value), ps.map Prod.fst = l ∧ Sl w 2 A l.length (clcs ps) ∧ ∀ p ∈ ps, PathV w p.2 p.1.p
theorem ClSl.below {A : Option Addr} {l : List Cl} (h : ClSl w A l) (hb : Below w.heap.size w w') : ClSl w' A l := by
  obtain ⟨ps, hm, hs, hp⟩ := h
  exact ⟨ps, hm, hs.below hb, fun p hpp => (hp p hpp).below hb⟩
theorem ClSl.get {A : Option Addr} {l : List Cl} (h : ClSl w A l) (k : Nat) (hl : k < l.length) :
    ∃ (b off : Nat) (Ae : Option Addr) (ce : Nat), A = some ⟨b, off, none⟩ ∧ b < w.heap.size ∧ w.cell? ⟨b, off + k * 2, none⟩ = some (.slice Ae l[k].p.length ce) ∧ w.cell? ⟨b, off + k * 2 + 1, none⟩ = some (.int .i64 l[k].rule) ∧
      Sl w 5 Ae l[k].p.length (sgs l[k].p) ∧ l[k].p.length ≤ ce ∧ ce ≤ 9223372036854775807 := by
  obtain ⟨ps, rfl, h2, h3⟩ := h
  have hl' : k < ps.length := by simpa using hl
  rw [List.length_map] at h2
  obtain ⟨b, off, e, hb, c0, c1⟩ := h2.cl k hl' hl'
  obtain ⟨Ae, ce, ev, hs, hc, hc2⟩ := h3 ps[k] (List.getElem_mem hl')
  rw [ev] at c0
  have hm : (ps.map Prod.fst)[k] = ps[k].1 := by simp
  rw [hm]
  exact ⟨b, off, Ae, ce, e, hb, c0, c1, hs, hc, hc2⟩
theorem ClV.sl {l : List Cl} (h : ClV w v l) : ∃ A c, v = .slice A l.length c ∧ ClSl w A l ∧ l.length ≤ c ∧ c ≤ 9223372036854775807 := by
  obtain ⟨A, c, e, h1, h2, ps, hm, hs, hp⟩ := h
  exact ⟨A, c, e, ⟨ps, hm, hs, hp⟩, h1, h2⟩
theorem ClSl.val {A : Option Addr} {c : Nat} {l : List Cl} (h : ClSl w A l) (h1 : l.length ≤ c) (h2 : c ≤ 9223372036854775807) : ClV w (.slice A l.length c) l := by
  obtain ⟨ps, hm, hs, hp⟩ := h
  exact ⟨A, c, rfl, h1, h2, ps, hm, hs, hp⟩
end

/-- A state's cells: its three lists are values. -/
def stC (x : St) (P C D : Value) : List Value := [.int .i64 x.m.a, .int .i64 x.m.b, .int .i64 x.m.c, .int .i64 x.m.d, .int .i64 x.m.e, .int .i64 x.m.f, P, C, .int .u8 x.r, .int .u8 x.g, .int .u8 x.b, .int .u8 x.a,
  .int .i64 x.wide, .int .i64 x.cap, .int .i64 x.join, D, .int .i64 x.ph, .int .i64 x.f.k, .bool x.f.ex, .int .i64 x.f.n, .int .i64 x.f.at_, .int .i64 x.f.ln, .string x.f.s, .int .i64 x.sz]
structure StAt (w : World) (x : St) (P C D : Value) : Prop where
  p : PathV w P x.p
  c : ClV w C x.cl
  d : IntsV w D x.da
theorem StAt.below {w w' : World} {x : St} {P C D : Value} (h : StAt w x P C D) (hb : Below w.heap.size w w') : StAt w' x P C D := ⟨h.p.below hb, h.c.below hb, h.d.below hb⟩
theorem stC_one {x : St} {P C D : Value} (hp : P.oneCell' = true) (hc : C.oneCell' = true) (hd : D.oneCell' = true) : ∀ v ∈ stC x P C D, v.oneCell' = true := by
  intro v hv
  simp only [stC, List.mem_cons, List.not_mem_nil, or_false] at hv
  rcases hv with rfl | rfl | rfl | rfl | rfl | rfl | rfl | rfl | rfl | rfl | rfl | rfl | rfl | rfl | rfl | rfl | rfl | rfl | rfl | rfl | rfl | rfl | rfl | rfl <;> first | rfl | assumption
theorem stC_len (x : St) (P C D : Value) : (stC x P C D).length = 24 := rfl
theorem StAt.one {w : World} {x : St} {P C D : Value} (h : StAt w x P C D) : ∀ v ∈ stC x P C D, v.oneCell' = true := by
  obtain ⟨_, _, rfl, _⟩ := h.p
  obtain ⟨_, _, rfl, _⟩ := h.c
  obtain ⟨_, _, rfl, _⟩ := h.d
  exact stC_one rfl rfl rfl
end Go.Proofs.YtdfkbbcoolgfiaaGreat

namespace Go.Proofs.YtdfkbbcoolgfiaaGreat
open Go.RowKit

def RecT (P : Program) (t : TypeId) (n : Nat) : Prop := ∃ d, P.underlying t = some d ∧ d.isRow = true ∧ (P.info? t).map (·.size) = some n
theorem BC.range {w : World} {g : Nat} {C : List Value} (h : BC w g C) : w.rangeAt g 0 C := fun j v hv => by rw [Nat.zero_add]; exact h.c j v hv
theorem BC.there {w : World} {g : Nat} {C : List Value} (h : BC w g C) : w.there g 0 C.length := fun j hj => by
  rw [Nat.zero_add]
  exact ⟨by rw [h.c j _ (List.getElem?_eq_getElem hj)]; rfl, h.nf j⟩
theorem setCells_size (g : Nat) : ∀ (vs : List Value) (o : Nat) (w : World), (w.setCells g o vs).heap.size = w.heap.size
  | [], _, _ => rfl
  | v :: r, o, w => by rw [World.setCells, setCells_size g r]; simp [World.setCell]
theorem BC.putAll {w : World} {g : Nat} {C : List Value} (h : BC w g C) (vs : List Value) (hl : C.length = vs.length) : BC (w.setCells g 0 vs) g vs := by
  refine ⟨by rw [setCells_size]; exact h.lt, fun i => by rw [World.frozen?_setCells]; exact h.nf i, fun j v hv => ?_⟩
  have := World.rangeAt_setCells_same w g 0 vs (by rw [← hl]; exact h.there) j v hv
  rwa [Nat.zero_add] at this
theorem BC.apart {w : World} {g k : Nat} {C : List Value} (h : BC w k C) (hk : k ≠ g) (o : Nat) (vs : List Value) : BC (w.setCells g o vs) k C := by
  refine ⟨by rw [setCells_size]; exact h.lt, fun i => by rw [World.frozen?_setCells]; exact h.nf i, fun j v hv => ?_⟩
  rw [World.cell?_setCells_out g vs o w _ (fun e _ => absurd e hk)]
  exact h.c j v hv
theorem BC.apart1 {w : World} {g k : Nat} {C : List Value} (h : BC w k C) (hk : k ≠ g) (o : Nat) (v : Value) : BC (w.setCell ⟨g, o, none⟩ v) k C := h.apart hk o [v]
theorem below_setCells {B g : Nat} {w0 : World} (hBg : B ≤ g) : ∀ (vs : List Value) (o : Nat) (w : World), Below B w0 w → Below B w0 (w.setCells g o vs)
  | [], _, _, h => h
  | v :: r, o, _, h => below_setCells hBg r (o + 1) _ (h.setCell (p := ⟨g, o, none⟩) hBg v)
theorem setCell_heap (w : World) (g o k : Nat) (v : Value) (hk : k ≠ g) : (w.setCell ⟨g, o, none⟩ v).heap[k]? = w.heap[k]? := by
  simp [World.setCell, Array.getElem?_modify, Ne.symm hk]
theorem own_setCell {w : World} {base : Nat} {e : TypeId} {s n : Nat} {v : Value} {xs : List Value} (h : w.ownsRow base e s v n xs) {g : Nat} (hg : g < base) (o : Nat) (u : Value) : (w.setCell ⟨g, o, none⟩ u).ownsRow base e s v n xs := by
  refine ⟨h.1, ?_⟩
  rcases h.2 with h0 | ⟨k, cap, cur, hv, hb, hh, rest⟩
  · exact .inl h0
  · exact .inr ⟨k, cap, cur, hv, hb, by rw [setCell_heap _ _ _ _ _ (by omega)]; exact hh, rest⟩
theorem own_setCells {base : Nat} {e : TypeId} {s n : Nat} {v : Value} {xs : List Value} {g : Nat} (hg : g < base) : ∀ (vs : List Value) (o : Nat) (w : World), w.ownsRow base e s v n xs → (w.setCells g o vs).ownsRow base e s v n xs
  | [], _, _, h => h
  | u :: r, o, _, h => own_setCells hg r (o + 1) _ (own_setCell h hg o u)
section
variable {P : Program} {ops : Array Oper} {rest : List Oper} {op : Oper} {a : Act} {w : World} {Q : Exit → Act → World → Prop}
theorem wpList_load_rec (hgd : op.guard = none) (t : TypeId) (x : Operand) (ho : op.op = .load t x) (g : Nat) (hx : a.eval x = .pointer (some ⟨g, 0, none⟩)) (C : List Value) (n : Nat) (hT : RecT P t n) (h : BC w g C) (hn : C.length = n)
    (hk : wpList P ops Q rest (a.put op.dst (.agg C.toArray)) w) : wpList P ops Q (op :: rest) a w := by
  obtain ⟨d, hu, hd, hi⟩ := hT
  exact wpList_load_mid hgd t x ho g 0 hx C d h.range hu hd (by rw [hi, hn]) hk
theorem wpList_store_rec (hgd : op.guard = none) (t : TypeId) (x y : Operand) (ho : op.op = .store t x y) (g : Nat) (vs C : List Value) (hx : a.eval x = .pointer (some ⟨g, 0, none⟩)) (hy : a.eval y = .agg vs.toArray) (n : Nat) (hT : RecT P t n)
    (h : BC w g C) (hC : C.length = n) (hv : vs.length = n) (h1 : ∀ v ∈ vs, v.oneCell' = true) (hk : wpList P ops Q rest (a.put op.dst undef) (w.setCells g 0 vs)) : wpList P ops Q (op :: rest) a w := by
  obtain ⟨d, hu, hd, hi⟩ := hT
  have ht : w.there g 0 vs.toArray.size := by have := h.there; rwa [hC, ← hv, ← List.size_toArray] at this
  have := wpList_store_mid (P := P) (ops := ops) (rest := rest) (op := op) (a := a) (w := w) (Q := Q) hgd t x y ho g 0 vs.toArray hx hy ht (by rw [hi, List.size_toArray, hv]) (all_oneCell_toArray h1)
  exact this hk
theorem loadVar_rec {t : TypeId} {n g : Nat} {C : List Value} (hT : RecT P t n) (h : BC w g C) (hn : C.length = n) : (loadVar t ⟨g, 0, none⟩).run P w = .ok (.agg C.toArray) w := by
  obtain ⟨d, hu, hd, hi⟩ := hT
  exact run_loadVar_mid w g 0 t C d h.range hu hd (by rw [hi, hn])
theorem result_rec {fn : Func} {p u : Tmp} {t : TypeId} {n g : Nat} {C : List Value} (hf : fn.results = #[.cell p t, .tmp u]) {tmps : Array Value} {v : Value} (hp : tmps.getD p undef = .pointer (some ⟨g, 0, none⟩)) (hu : tmps.getD u undef = v)
    (hT : RecT P t n) (h : BC w g C) (hn : C.length = n) : (results fn tmps).run P w = .ok (.tuple #[.agg C.toArray, v]) w := by
  rw [results_cell_tmp hf, hp, hu]
  have ha : (asAddr (.pointer (some ⟨g, 0, none⟩))).run P w = .ok ⟨g, 0, none⟩ w := by go_simp
  simp only [ha, Result.andThen, loadVar_rec hT h hn]
theorem result_rec1 {fn : Func} {p : Tmp} {t : TypeId} {n g : Nat} {C : List Value} (hf : fn.results = #[.cell p t]) {tmps : Array Value} (hp : tmps.getD p undef = .pointer (some ⟨g, 0, none⟩))
    (hT : RecT P t n) (h : BC w g C) (hn : C.length = n) : (results fn tmps).run P w = .ok (.agg C.toArray) w := by
  have ha : (asAddr (.pointer (some ⟨g, 0, none⟩))).run P w = .ok ⟨g, 0, none⟩ w := by go_simp
  rw [Array.getD_eq_getD_getElem?] at hp
  simp only [results, hf]
  simp [Sem.run_bind, Result.andThen, hp, ha, loadVar_rec hT h hn]
end
end Go.Proofs.YtdfkbbcoolgfiaaGreat
