/- dash.walk's closure: a piece is added to a contour's way. -/
import Derived.Test.YtbpgehaflbacmaaDash2
import Derived.Test.YtbpgehaflbacmaaAllP
import Derived.Test.YtbpgehaflbacmaaEdge
import Derived.Deep.RegionHeld3
import Derived.IntWalk
namespace Go.Proofs.Ytbpgehaflbacmaa
open Go.RowKit

theorem edT2 : SlT Try.prog 56 68 7 56 := slT_of Try.underlying56 (by kernel_rfl) (by omega) (by omega)
theorem inT2 : SlT Try.prog 22 3 1 8 := slT_of Try.underlying22 (by kernel_rfl) (by omega) (by omega)

/-- Where each one ends, alone. -/
theorem endAt2 {w : World} {Ae : Option Addr} {n : Nat} {ps : List Ed} (hl : ps.length = n) (h : Sl w 1 Ae n (ints (endsL ps))) (k : Nat) (hk : k < n) :
    ∃ b off : Nat, Ae = some ⟨b, off, none⟩ ∧ b < w.heap.size ∧ w.cell? ⟨b, off + k, none⟩ = some (.int .i64 (sumL (ps.take (k + 1)))) := by
  have hl : k < (endsL ps).length := by rw [endsL_len, hl]; exact hk
  obtain ⟨b, off, e, hb, hc⟩ := h.intAt k hk hl
  rw [endsL_get] at hc
  exact ⟨b, off, e, hb, hc⟩

/-- Block g is a way: its two rows lie behind it. -/
def WSt (w : World) (g m n : Nat) (ps : List Ed) : Prop :=
  ∃ (Ap Ae : Option Addr) (cp ce : Nat), (g < m ∧ m ≤ w.heap.size ∧ (∀ k, Value.ownBlock (.slice Ap n cp) = some k → k < m) ∧ ∀ k, Value.ownBlock (.slice Ae n ce) = some k → k < m) ∧ ps.length = n ∧ w.cell? ⟨g, 0, none⟩ = some (.slice Ap n cp) ∧ w.cell? ⟨g, 1, none⟩ = some (.slice Ae n ce) ∧ w.frozen? ⟨g, 0, none⟩ = false ∧ w.frozen? ⟨g, 1, none⟩ = false ∧ g < w.heap.size ∧
    w.ownsRow (g + 1) 68 7 (.slice Ap n cp) n (eds ps) ∧ w.ownsRow (g + 1) 3 1 (.slice Ae n ce) n (ints (endsL ps))
theorem WSt.below {w w' : World} {g m n : Nat} {ps : List Ed} (h : WSt w g m n ps) (hb : Below w.heap.size w w') : WSt w' g m n ps := by
  obtain ⟨Ap, Ae, cp, ce, ⟨h1, h2, h3⟩, hl, c0, c1, f0, f1, hg, hA, hE⟩ := h
  exact ⟨Ap, Ae, cp, ce, ⟨h1, Nat.le_trans h2 hb.size, h3⟩, hl, (later_cell hb hg).trans c0, (later_cell hb hg).trans c1, (later_frozen hb hg).trans f0, (later_frozen hb hg).trans f1, Nat.lt_of_lt_of_le hg hb.size, own_below hA hb, own_below hE hb⟩
theorem WSt.top {w : World} {g m n : Nat} {ps : List Ed} (h : WSt w g m n ps) : WSt w g w.heap.size n ps := by
  obtain ⟨Ap, Ae, cp, ce, ⟨h1, h2, h3, h4⟩, rest⟩ := h
  exact ⟨Ap, Ae, cp, ce, ⟨Nat.lt_of_lt_of_le h1 h2, Nat.le_refl _, fun k hk => Nat.lt_of_lt_of_le (h3 k hk) h2, fun k hk => Nat.lt_of_lt_of_le (h4 k hk) h2⟩, rest⟩
/-- The blocks from m on are as they were. -/
def Kept (w w' : World) (m : Nat) : Prop := ∀ b, m ≤ b → b < w.heap.size → w'.heap[b]? = w.heap[b]?
theorem Kept.tr {w w' w2 : World} {m : Nat} (h : Kept w w' m) (hs : w.heap.size ≤ w'.heap.size) (h' : Kept w' w2 m) : Kept w w2 m := fun b hb hl => (h' b hb (by omega)).trans (h b hb hl)
theorem Kept.of {w w' : World} {m : Nat} (h : Below w.heap.size w w') : Kept w w' m := fun b _ hl => h.block b hl
theorem Kept.row {w w' : World} {m : Nat} {row : Option Nat} (h : w.grownBy w' row) (hr : ∀ k, row = some k → k < m) : Kept w w' m := fun b hb hl => h.block b hl (fun e => by have := hr b e.symm; omega)
theorem Kept.set {w : World} {m g j : Nat} {u : Value} (h : g < m) : Kept w (w.setCell ⟨g, j, none⟩ u) m := fun b hb _ => heap_setCell_other w ⟨g, j, none⟩ b u (by simp; omega)
theorem set_grown (w : World) (g j : Nat) (u : Value) : w.grownBy (w.setCell ⟨g, j, none⟩ u) (some g) :=
  ⟨rfl, rfl, rfl, by simp [World.setCell], fun k _ hk => heap_setCell_other w ⟨g, j, none⟩ k _ (fun e => hk (by simp [e]))⟩
theorem own_gg {w w' : World} {g base : Nat} {e : TypeId} {s n : Nat} {v : Value} {xs : List Value} (h : w.ownsRow base e s v n xs) (hg : w.grownBy w' (some g)) (hb : g < base) : w'.ownsRow base e s v n xs :=
  h.kept hg (by
    cases hv : v.ownBlock with
    | none => exact .inl rfl
    | some k => refine .inr ?_; have := (h.lt k hv).1; intro e; injection e with e; omega)
/-- The first store: the pieces have grown. -/
theorem add_mid {w w3 : World} {g n c2 cp ce : Nat} {A2 Ap Ae : Option Addr} {ps : List Ed} {e : Ed} (hc0 : w.cell? ⟨g, 0, none⟩ = some (.slice Ap n cp)) (hc1 : w.cell? ⟨g, 1, none⟩ = some (.slice Ae n ce)) (hf0 : w.frozen? ⟨g, 0, none⟩ = false) (hf1 : w.frozen? ⟨g, 1, none⟩ = false) (hg : g < w.heap.size)
    (hA : w.ownsRow (g + 1) 68 7 (.slice Ap n cp) n (eds ps)) (hE : w.ownsRow (g + 1) 3 1 (.slice Ae n ce) n (ints (endsL ps)))
    (hA3 : w3.ownsRow (g + 1) 68 7 (.slice A2 (n + 1) c2) (n + 1) (eds ps ++ edc e)) (hg3 : w.grownBy w3 (Value.ownBlock (.slice Ap n cp))) {m : Nat} (hm : g < m) (hmA : ∀ k, Value.ownBlock (.slice Ap n cp) = some k → k < m) :
    Kept w (w3.setCell ⟨g, 0, none⟩ (.slice A2 (n + 1) c2)) m ∧ (w3.cell? ⟨g, 0, none⟩ = some (.slice Ap n cp) ∧ w3.frozen? ⟨g, 0, none⟩ = false) ∧
    ((w3.setCell ⟨g, 0, none⟩ (.slice A2 (n + 1) c2)).cell? ⟨g, 0, none⟩ = some (.slice A2 (n + 1) c2) ∧ (w3.setCell ⟨g, 0, none⟩ (.slice A2 (n + 1) c2)).cell? ⟨g, 1, none⟩ = some (.slice Ae n ce) ∧
      (w3.setCell ⟨g, 0, none⟩ (.slice A2 (n + 1) c2)).frozen? ⟨g, 0, none⟩ = false ∧ (w3.setCell ⟨g, 0, none⟩ (.slice A2 (n + 1) c2)).frozen? ⟨g, 1, none⟩ = false ∧ g < (w3.setCell ⟨g, 0, none⟩ (.slice A2 (n + 1) c2)).heap.size) ∧
    (w3.setCell ⟨g, 0, none⟩ (.slice A2 (n + 1) c2)).ownsRow (g + 1) 68 7 (.slice A2 (n + 1) c2) (n + 1) (eds (ps ++ [e])) ∧
    (w3.setCell ⟨g, 0, none⟩ (.slice A2 (n + 1) c2)).ownsRow (g + 1) 3 1 (.slice Ae n ce) n (ints (endsL ps)) ∧ Below g w (w3.setCell ⟨g, 0, none⟩ (.slice A2 (n + 1) c2)) := by
  have hr : ∀ k, Value.ownBlock (.slice Ap n cp) = some k → g < k := fun k hk => (hA.lt k hk).1
  have hbk : w3.heap[g]? = w.heap[g]? := hg3.block g hg (fun e => by have := hr g e.symm; omega)
  have x0 := (World.cell?_of_block (a := ⟨g, 0, none⟩) hbk).trans hc0
  have x1 := (World.cell?_of_block (a := ⟨g, 1, none⟩) hbk).trans hc1
  have y0 := (World.frozen?_of_block (a := ⟨g, 0, none⟩) hbk).trans hf0
  have y1 := (World.frozen?_of_block (a := ⟨g, 1, none⟩) hbk).trans hf1
  have hg3' : g < w3.heap.size := Nat.lt_of_lt_of_le hg hg3.size
  have hE3 := hE.kept hg3 (own_ne hE hA (by decide))
  refine ⟨(Kept.row hg3 hmA).tr hg3.size (Kept.set hm), ⟨x0, y0⟩, ⟨World.cell?_setCell_same _ _ _ x0, ?_, ?_, ?_, by simpa [World.setCell] using hg3'⟩, ?_, own_gg hE3 (set_grown _ _ _ _) (by omega), ?_⟩
  · rw [World.cell?_setCell_other _ _ _ _ (by intro e; injection e; omega)]; exact x1
  · rw [World.frozen?_setCell]; exact y0
  · rw [World.frozen?_setCell]; exact y1
  · rw [eds_app, eds_one]; exact own_gg hA3 (set_grown _ _ _ _) (by omega)
  · refine (Below.grown (Below.refl g w) hg3 (by omega) (fun k hk => Nat.le_of_lt (hr k hk))).setCell (Nat.le_refl _) _
/-- The second store: its end is told. -/
theorem add_end {w w4 w5 : World} {g n c2 c5 ce : Nat} {A2 A5 Ae : Option Addr} {ps : List Ed} {e : Ed} (hl : ps.length = n) (hc0 : w.cell? ⟨g, 0, none⟩ = some (.slice A2 (n + 1) c2)) (hc1 : w.cell? ⟨g, 1, none⟩ = some (.slice Ae n ce)) (hf0 : w.frozen? ⟨g, 0, none⟩ = false) (hf1 : w.frozen? ⟨g, 1, none⟩ = false) (hg : g < w.heap.size)
    (hA : w.ownsRow (g + 1) 68 7 (.slice A2 (n + 1) c2) (n + 1) (eds (ps ++ [e]))) (hE : w.ownsRow (g + 1) 3 1 (.slice Ae n ce) n (ints (endsL ps))) (hb : Below w.heap.size w w4)
    (hE5 : w5.ownsRow (g + 1) 3 1 (.slice A5 (n + 1) c5) (n + 1) (ints (endsL ps) ++ [.int .i64 (sumL ps + lenE e)])) (hg5 : w4.grownBy w5 (Value.ownBlock (.slice Ae n ce))) {m : Nat} (hm : g < m) (hmE : ∀ k, Value.ownBlock (.slice Ae n ce) = some k → k < m) :
    Kept w (w5.setCell ⟨g, 1, none⟩ (.slice A5 (n + 1) c5)) m ∧ (w5.cell? ⟨g, 1, none⟩ = some (.slice Ae n ce) ∧ w5.frozen? ⟨g, 1, none⟩ = false) ∧ WSt (w5.setCell ⟨g, 1, none⟩ (.slice A5 (n + 1) c5)) g (w5.setCell ⟨g, 1, none⟩ (.slice A5 (n + 1) c5)).heap.size (n + 1) (ps ++ [e]) ∧ Below g w (w5.setCell ⟨g, 1, none⟩ (.slice A5 (n + 1) c5)) := by
  have hr : ∀ k, Value.ownBlock (.slice Ae n ce) = some k → g < k := fun k hk => (hE.lt k hk).1
  have hE4 := own_below hE hb
  have hA4 := own_below hA hb
  have hgl : g < w4.heap.size := Nat.lt_of_lt_of_le hg hb.size
  have hbk : w5.heap[g]? = w4.heap[g]? := hg5.block g hgl (fun e => by have := hr g e.symm; omega)
  have x0 := (World.cell?_of_block (a := ⟨g, 0, none⟩) hbk).trans ((later_cell hb hg).trans hc0)
  have x1 := (World.cell?_of_block (a := ⟨g, 1, none⟩) hbk).trans ((later_cell hb hg).trans hc1)
  have y0 := (World.frozen?_of_block (a := ⟨g, 0, none⟩) hbk).trans ((later_frozen hb hg).trans hf0)
  have y1 := (World.frozen?_of_block (a := ⟨g, 1, none⟩) hbk).trans ((later_frozen hb hg).trans hf1)
  have hg5' : g < w5.heap.size := Nat.lt_of_lt_of_le hgl hg5.size
  have hA5 := hA4.kept hg5 (own_ne hA4 hE4 (by decide))
  have hEE : (w5.setCell ⟨g, 1, none⟩ (.slice A5 (n + 1) c5)).ownsRow (g + 1) 3 1 (.slice A5 (n + 1) c5) (n + 1) (ints (endsL ps) ++ [.int .i64 (sumL ps + lenE e)]) := own_gg hE5 (set_grown _ _ _ _) (by omega)
  have hAA := own_gg hA5 (set_grown w5 g 1 (.slice A5 (n + 1) c5)) (by omega)
  refine ⟨((Kept.of hb).tr hb.size (Kept.row hg5 hmE)).tr (Nat.le_trans hb.size hg5.size) (Kept.set hm), ⟨x1, y1⟩, ⟨A2, A5, c2, c5, ⟨by simpa [World.setCell] using hg5', Nat.le_refl _, fun k hk => (hAA.lt k hk).2, fun k hk => (hEE.lt k hk).2⟩, by simp [hl], ?_, World.cell?_setCell_same _ _ _ x1, ?_, ?_, by simpa [World.setCell] using hg5', own_gg hA5 (set_grown _ _ _ _) (by omega), ?_⟩, ?_⟩
  · rw [World.cell?_setCell_other _ _ _ _ (by intro e; injection e; omega)]; exact x0
  · rw [World.frozen?_setCell]; exact y0
  · rw [World.frozen?_setCell]; exact y1
  · rw [endsL_snoc]
    have : ints (endsL ps ++ [sumL ps + lenE e]) = ints (endsL ps) ++ [.int .i64 (sumL ps + lenE e)] := by simp [ints]
    rw [this]
    exact own_gg hE5 (set_grown _ _ _ _) (by omega)
  · refine (Below.grown (hb.mono (Nat.le_of_lt hg)) hg5 (by omega) (fun k hk => Nat.le_of_lt (hr k hk))).setCell (Nat.le_refl _) _

theorem keep7 {W w' : World} {g : Nat} {v0 v1 v2 v3 v4 v5 v6 : Value} (hb : Below W.heap.size W w') (hlt : g < W.heap.size)
    (h : W.cell? ⟨g, 0, none⟩ = some v0 ∧ W.cell? ⟨g, 1, none⟩ = some v1 ∧ W.cell? ⟨g, 2, none⟩ = some v2 ∧ W.cell? ⟨g, 3, none⟩ = some v3 ∧ W.cell? ⟨g, 4, none⟩ = some v4 ∧ W.cell? ⟨g, 5, none⟩ = some v5 ∧ W.cell? ⟨g, 6, none⟩ = some v6) :
    w'.cell? ⟨g, 0, none⟩ = some v0 ∧ w'.cell? ⟨g, 1, none⟩ = some v1 ∧ w'.cell? ⟨g, 2, none⟩ = some v2 ∧ w'.cell? ⟨g, 3, none⟩ = some v3 ∧ w'.cell? ⟨g, 4, none⟩ = some v4 ∧ w'.cell? ⟨g, 5, none⟩ = some v5 ∧ w'.cell? ⟨g, 6, none⟩ = some v6 := by
  obtain ⟨h0, h1, h2, h3, h4, h5, h6⟩ := h
  exact ⟨(later_cell hb hlt).trans h0, (later_cell hb hlt).trans h1, (later_cell hb hlt).trans h2, (later_cell hb hlt).trans h3, (later_cell hb hlt).trans h4, (later_cell hb hlt).trans h5, (later_cell hb hlt).trans h6⟩
theorem keepg {W V w5 : World} {h g j : Nat} {row : Option Nat} {u v0 v1 v2 v3 v4 v5 v6 : Value} (hg : V.grownBy w5 row) (hb : Below W.heap.size W V) (hk : ∀ k, row = some k → k < h) (hlt : h < W.heap.size) (hne : g ≠ h)
    (H : W.cell? ⟨h, 0, none⟩ = some v0 ∧ W.cell? ⟨h, 1, none⟩ = some v1 ∧ W.cell? ⟨h, 2, none⟩ = some v2 ∧ W.cell? ⟨h, 3, none⟩ = some v3 ∧ W.cell? ⟨h, 4, none⟩ = some v4 ∧ W.cell? ⟨h, 5, none⟩ = some v5 ∧ W.cell? ⟨h, 6, none⟩ = some v6) :
    (w5.cell? ⟨h, 0, none⟩ = some v0 ∧ w5.cell? ⟨h, 1, none⟩ = some v1 ∧ w5.cell? ⟨h, 2, none⟩ = some v2 ∧ w5.cell? ⟨h, 3, none⟩ = some v3 ∧ w5.cell? ⟨h, 4, none⟩ = some v4 ∧ w5.cell? ⟨h, 5, none⟩ = some v5 ∧ w5.cell? ⟨h, 6, none⟩ = some v6) ∧
    ((w5.setCell ⟨g, j, none⟩ u).cell? ⟨h, 0, none⟩ = some v0 ∧ (w5.setCell ⟨g, j, none⟩ u).cell? ⟨h, 1, none⟩ = some v1 ∧ (w5.setCell ⟨g, j, none⟩ u).cell? ⟨h, 2, none⟩ = some v2 ∧ (w5.setCell ⟨g, j, none⟩ u).cell? ⟨h, 3, none⟩ = some v3 ∧
      (w5.setCell ⟨g, j, none⟩ u).cell? ⟨h, 4, none⟩ = some v4 ∧ (w5.setCell ⟨g, j, none⟩ u).cell? ⟨h, 5, none⟩ = some v5 ∧ (w5.setCell ⟨g, j, none⟩ u).cell? ⟨h, 6, none⟩ = some v6) := by
  have hc : ∀ i, w5.cell? ⟨h, i, none⟩ = W.cell? ⟨h, i, none⟩ := fun i =>
    (World.cell?_of_block (a := ⟨h, i, none⟩) (hg.block h (Nat.lt_of_lt_of_le hlt hb.size) (fun e => by have := hk h e.symm; omega))).trans (later_cell hb hlt)
  have hs : ∀ i, (w5.setCell ⟨g, j, none⟩ u).cell? ⟨h, i, none⟩ = w5.cell? ⟨h, i, none⟩ := fun i => World.cell?_setCell_far _ _ _ _ hne
  simp only [hs, hc]
  exact ⟨H, H⟩
theorem moved_no {e : Ed} (h : moved e = false) : e.x0 = e.x1 ∧ e.y0 = e.y1 := by
  simpa [moved] using h
theorem moved_x {e : Ed} (h : e.x0 ≠ e.x1) : moved e = true := by simp [moved, h]
theorem moved_y {e : Ed} (h : e.y0 ≠ e.y1) : moved e = true := by simp [moved, h]

/-- Two loads, named: they are branched over, not taken first. -/
def ldEnds : Oper := ⟨some 22, .load 22 (.tmp 21), 22, "dash.go:66", #[⟨0, .data⟩], none⟩
theorem ldEnds_is : (⟨some 22, .load 22 (.tmp 21), 22, "dash.go:66", #[⟨0, .data⟩], none⟩ : Oper) = ldEnds := rfl
end Go.Proofs.Ytbpgehaflbacmaa
