/- dash.walk's closure: a piece is added to a contour's way. -/
import Derived.Test.YtacolepcpbhceaaDash2
import Derived.Test.YtacolepcpbhceaaAllP
import Derived.Test.YtacolepcpbhceaaEdge
import Derived.Deep.RegionHeld3
import Derived.IntWalk
namespace Go.Proofs.Ytacolepcpbhceaa
open Go.RowKit

theorem edT2 : SlT Try.prog 41 45 7 56 := slT_of Try.underlying41 (by kernel_rfl) (by omega) (by omega)
theorem inT2 : SlT Try.prog 22 3 1 8 := slT_of Try.underlying22 (by kernel_rfl) (by omega) (by omega)

/-- Where each one ends, alone. -/
theorem endAt2 {w : World} {Ae : Option Addr} {n : Nat} {ps : List Ed} (hl : ps.length = n) (h : Sl w 1 Ae n (ints (endsL ps))) (k : Nat) (hk : k < n) :
    ∃ b off : Nat, Ae = some ⟨b, off, none⟩ ∧ b < w.heap.size ∧ w.cell? ⟨b, off + k, none⟩ = some (.int .i64 (sumL (ps.take (k + 1)))) := by
  have hl : k < (endsL ps).length := by rw [endsL_len, hl]; exact hk
  obtain ⟨b, off, e, hb, hc⟩ := h.intAt k hk hl
  rw [endsL_get] at hc
  exact ⟨b, off, e, hb, hc⟩

set_option maxHeartbeats 400000 in
theorem way_long_e (Ap Ae : Option Addr) (n np cp ce : Nat) (ps : List Ed) (w : World) (hl : ps.length = n) (hf : n ≤ 1000) (h : Sl w 1 Ae n (ints (endsL ps))) :
    Calls Try.prog 29 #[.agg #[.slice Ap np cp, .slice Ae n ce]] w fun e w' => e = .returned (.int .i64 (sumL ps)) ∧ Below w.heap.size w w' := by
  by_cases h0 : n = 0
  · subst h0
    have hp : ps = [] := List.eq_nil_of_length_eq_zero hl
    subst hp
    go_enter Try.func29, Try.ntmps29
    go_wp2
    go_ret
    exact ⟨rfl, bal (Below.refl _ _) _⟩
  · obtain ⟨b, off, rfl, hb, c0⟩ := endAt2 hl h (n - 1) (by omega)
    have ht : ps.take (n - 1 + 1) = ps := List.take_of_length_le (by omega)
    rw [ht] at c0
    have hn0 : ((n : Int) == 0) = false := by simp; omega
    have hn1 : 1 ≤ n := by omega
    clear ht hl
    go_enter Try.func29, Try.ntmps29
    go_wp2
    go_ret
    exact ⟨rfl, bal (Below.refl _ _) _⟩

/-- Block g is a way: its two rows lie behind it. -/
def WSt (w : World) (g m n : Nat) (ps : List Ed) : Prop :=
  ∃ (Ap Ae : Option Addr) (cp ce : Nat), (g < m ∧ m ≤ w.heap.size ∧ (∀ k, Value.ownBlock (.slice Ap n cp) = some k → k < m) ∧ ∀ k, Value.ownBlock (.slice Ae n ce) = some k → k < m) ∧ ps.length = n ∧ w.cell? ⟨g, 0, none⟩ = some (.slice Ap n cp) ∧ w.cell? ⟨g, 1, none⟩ = some (.slice Ae n ce) ∧ w.frozen? ⟨g, 0, none⟩ = false ∧ w.frozen? ⟨g, 1, none⟩ = false ∧ g < w.heap.size ∧
    w.ownsRow (g + 1) 45 7 (.slice Ap n cp) n (eds ps) ∧ w.ownsRow (g + 1) 3 1 (.slice Ae n ce) n (ints (endsL ps))
theorem WSt.below {w w' : World} {g m n : Nat} {ps : List Ed} (h : WSt w g m n ps) (hb : Below w.heap.size w w') : WSt w' g m n ps := by
  obtain ⟨Ap, Ae, cp, ce, ⟨h1, h2, h3⟩, hl, c0, c1, f0, f1, hg, hA, hE⟩ := h
  exact ⟨Ap, Ae, cp, ce, ⟨h1, Nat.le_trans h2 hb.size, h3⟩, hl, (later_cell hb hg).trans c0, (later_cell hb hg).trans c1, (later_frozen hb hg).trans f0, (later_frozen hb hg).trans f1, Nat.lt_of_lt_of_le hg hb.size, own_below hA hb, own_below hE hb⟩
theorem WSt.top {w : World} {g m n : Nat} {ps : List Ed} (h : WSt w g m n ps) : WSt w g w.heap.size n ps := by
  obtain ⟨Ap, Ae, cp, ce, ⟨h1, h2, h3, h4⟩, rest⟩ := h
  exact ⟨Ap, Ae, cp, ce, ⟨Nat.lt_of_lt_of_le h1 h2, Nat.le_refl _, fun k hk => Nat.lt_of_lt_of_le (h3 k hk) h2, fun k hk => Nat.lt_of_lt_of_le (h4 k hk) h2⟩, rest⟩
/-- The blocks from m on are as they were. -/
def Kept (w w' : World) (m : Nat) : Prop := ∀ b, m ≤ b → b < w.heap.size → w'.heap[b]? = w.heap[b]?
theorem Kept.tr {w w' w2 : World} {m : Nat} (h : Kept w w' m) (hs : w.heap.size ≤ w'.heap.size) (h' : Kept w' w2 m) : Kept w w2 m := fun b hb hl => (h' b hb (by omega)).trans (h b hb hl)
theorem Kept.of {w w' : World} {m : Nat} (h : Below w.heap.size w w') : Kept w w' m := fun b _ hl => h.block b hl
theorem Kept.row {w w' : World} {m : Nat} {row : Option Nat} (h : w.grownBy w' row) (hr : ∀ k, row = some k → k < m) : Kept w w' m := fun b hb hl => h.block b hl (fun e => by have := hr b e.symm; omega)
theorem Kept.set {w : World} {m g j : Nat} {u : Value} (h : g < m) : Kept w (w.setCell ⟨g, j, none⟩ u) m := fun b hb _ => heap_setCell_other w ⟨g, j, none⟩ b u (by simp; omega)
theorem set_grown (w : World) (g j : Nat) (u : Value) : w.grownBy (w.setCell ⟨g, j, none⟩ u) (some g) :=
  ⟨rfl, rfl, rfl, by simp [World.setCell], fun k _ hk => heap_setCell_other w ⟨g, j, none⟩ k _ (fun e => hk (by simp [e]))⟩
theorem own_gg {w w' : World} {g base : Nat} {e : TypeId} {s n : Nat} {v : Value} {xs : List Value} (h : w.ownsRow base e s v n xs) (hg : w.grownBy w' (some g)) (hb : g < base) : w'.ownsRow base e s v n xs :=
  h.kept hg (by
    cases hv : v.ownBlock with
    | none => exact .inl rfl
    | some k => refine .inr ?_; have := (h.lt k hv).1; intro e; injection e with e; omega)
/-- The first store: the pieces have grown. -/
theorem add_mid {w w3 : World} {g n c2 cp ce : Nat} {A2 Ap Ae : Option Addr} {ps : List Ed} {e : Ed} (hc0 : w.cell? ⟨g, 0, none⟩ = some (.slice Ap n cp)) (hc1 : w.cell? ⟨g, 1, none⟩ = some (.slice Ae n ce)) (hf0 : w.frozen? ⟨g, 0, none⟩ = false) (hf1 : w.frozen? ⟨g, 1, none⟩ = false) (hg : g < w.heap.size)
    (hA : w.ownsRow (g + 1) 45 7 (.slice Ap n cp) n (eds ps)) (hE : w.ownsRow (g + 1) 3 1 (.slice Ae n ce) n (ints (endsL ps)))
    (hA3 : w3.ownsRow (g + 1) 45 7 (.slice A2 (n + 1) c2) (n + 1) (eds ps ++ edc e)) (hg3 : w.grownBy w3 (Value.ownBlock (.slice Ap n cp))) {m : Nat} (hm : g < m) (hmA : ∀ k, Value.ownBlock (.slice Ap n cp) = some k → k < m) :
    Kept w (w3.setCell ⟨g, 0, none⟩ (.slice A2 (n + 1) c2)) m ∧ (w3.cell? ⟨g, 0, none⟩ = some (.slice Ap n cp) ∧ w3.frozen? ⟨g, 0, none⟩ = false) ∧
    ((w3.setCell ⟨g, 0, none⟩ (.slice A2 (n + 1) c2)).cell? ⟨g, 0, none⟩ = some (.slice A2 (n + 1) c2) ∧ (w3.setCell ⟨g, 0, none⟩ (.slice A2 (n + 1) c2)).cell? ⟨g, 1, none⟩ = some (.slice Ae n ce) ∧
      (w3.setCell ⟨g, 0, none⟩ (.slice A2 (n + 1) c2)).frozen? ⟨g, 0, none⟩ = false ∧ (w3.setCell ⟨g, 0, none⟩ (.slice A2 (n + 1) c2)).frozen? ⟨g, 1, none⟩ = false ∧ g < (w3.setCell ⟨g, 0, none⟩ (.slice A2 (n + 1) c2)).heap.size) ∧
    (w3.setCell ⟨g, 0, none⟩ (.slice A2 (n + 1) c2)).ownsRow (g + 1) 45 7 (.slice A2 (n + 1) c2) (n + 1) (eds (ps ++ [e])) ∧
    (w3.setCell ⟨g, 0, none⟩ (.slice A2 (n + 1) c2)).ownsRow (g + 1) 3 1 (.slice Ae n ce) n (ints (endsL ps)) ∧ Below g w (w3.setCell ⟨g, 0, none⟩ (.slice A2 (n + 1) c2)) := by
  have hr : ∀ k, Value.ownBlock (.slice Ap n cp) = some k → g < k := fun k hk => (hA.lt k hk).1
  have hbk : w3.heap[g]? = w.heap[g]? := hg3.block g hg (fun e => by have := hr g e.symm; omega)
  have x0 := (World.cell?_of_block (a := ⟨g, 0, none⟩) hbk).trans hc0
  have x1 := (World.cell?_of_block (a := ⟨g, 1, none⟩) hbk).trans hc1
  have y0 := (World.frozen?_of_block (a := ⟨g, 0, none⟩) hbk).trans hf0
  have y1 := (World.frozen?_of_block (a := ⟨g, 1, none⟩) hbk).trans hf1
  have hg3' : g < w3.heap.size := Nat.lt_of_lt_of_le hg hg3.size
  have hE3 := hE.kept hg3 (own_ne hE hA (by decide))
  refine ⟨(Kept.row hg3 hmA).tr hg3.size (Kept.set hm), ⟨x0, y0⟩, ⟨World.cell?_setCell_same _ _ _ x0, ?_, ?_, ?_, by simpa [World.setCell] using hg3'⟩, ?_, own_gg hE3 (set_grown _ _ _ _) (by omega), ?_⟩
  · rw [World.cell?_setCell_other _ _ _ _ (by intro e; injection e; omega)]; exact x1
  · rw [World.frozen?_setCell]; exact y0
  · rw [World.frozen?_setCell]; exact y1
  · rw [eds_app, eds_one]; exact own_gg hA3 (set_grown _ _ _ _) (by omega)
  · refine (Below.grown (Below.refl g w) hg3 (by omega) (fun k hk => Nat.le_of_lt (hr k hk))).setCell (Nat.le_refl _) _
/-- The second store: its end is told. -/
theorem add_end {w w4 w5 : World} {g n c2 c5 ce : Nat} {A2 A5 Ae : Option Addr} {ps : List Ed} {e : Ed} (hl : ps.length = n) (hc0 : w.cell? ⟨g, 0, none⟩ = some (.slice A2 (n + 1) c2)) (hc1 : w.cell? ⟨g, 1, none⟩ = some (.slice Ae n ce)) (hf0 : w.frozen? ⟨g, 0, none⟩ = false) (hf1 : w.frozen? ⟨g, 1, none⟩ = false) (hg : g < w.heap.size)
    (hA : w.ownsRow (g + 1) 45 7 (.slice A2 (n + 1) c2) (n + 1) (eds (ps ++ [e]))) (hE : w.ownsRow (g + 1) 3 1 (.slice Ae n ce) n (ints (endsL ps))) (hb : Below w.heap.size w w4)
    (hE5 : w5.ownsRow (g + 1) 3 1 (.slice A5 (n + 1) c5) (n + 1) (ints (endsL ps) ++ [.int .i64 (sumL ps + lenE e)])) (hg5 : w4.grownBy w5 (Value.ownBlock (.slice Ae n ce))) {m : Nat} (hm : g < m) (hmE : ∀ k, Value.ownBlock (.slice Ae n ce) = some k → k < m) :
    Kept w (w5.setCell ⟨g, 1, none⟩ (.slice A5 (n + 1) c5)) m ∧ (w5.cell? ⟨g, 1, none⟩ = some (.slice Ae n ce) ∧ w5.frozen? ⟨g, 1, none⟩ = false) ∧ WSt (w5.setCell ⟨g, 1, none⟩ (.slice A5 (n + 1) c5)) g (w5.setCell ⟨g, 1, none⟩ (.slice A5 (n + 1) c5)).heap.size (n + 1) (ps ++ [e]) ∧ Below g w (w5.setCell ⟨g, 1, none⟩ (.slice A5 (n + 1) c5)) := by
  have hr : ∀ k, Value.ownBlock (.slice Ae n ce) = some k → g < k := fun k hk => (hE.lt k hk).1
  have hE4 := own_below hE hb
  have hA4 := own_below hA hb
  have hgl : g < w4.heap.size := Nat.lt_of_lt_of_le hg hb.size
  have hbk : w5.heap[g]? = w4.heap[g]? := hg5.block g hgl (fun e => by have := hr g e.symm; omega)
  have x0 := (World.cell?_of_block (a := ⟨g, 0, none⟩) hbk).trans ((later_cell hb hg).trans hc0)
  have x1 := (World.cell?_of_block (a := ⟨g, 1, none⟩) hbk).trans ((later_cell hb hg).trans hc1)
  have y0 := (World.frozen?_of_block (a := ⟨g, 0, none⟩) hbk).trans ((later_frozen hb hg).trans hf0)
  have y1 := (World.frozen?_of_block (a := ⟨g, 1, none⟩) hbk).trans ((later_frozen hb hg).trans hf1)
  have hg5' : g < w5.heap.size := Nat.lt_of_lt_of_le hgl hg5.size
  have hA5 := hA4.kept hg5 (own_ne hA4 hE4 (by decide))
  have hEE : (w5.setCell ⟨g, 1, none⟩ (.slice A5 (n + 1) c5)).ownsRow (g + 1) 3 1 (.slice A5 (n + 1) c5) (n + 1) (ints (endsL ps) ++ [.int .i64 (sumL ps + lenE e)]) := own_gg hE5 (set_grown _ _ _ _) (by omega)
  have hAA := own_gg hA5 (set_grown w5 g 1 (.slice A5 (n + 1) c5)) (by omega)
  refine ⟨((Kept.of hb).tr hb.size (Kept.row hg5 hmE)).tr (Nat.le_trans hb.size hg5.size) (Kept.set hm), ⟨x1, y1⟩, ⟨A2, A5, c2, c5, ⟨by simpa [World.setCell] using hg5', Nat.le_refl _, fun k hk => (hAA.lt k hk).2, fun k hk => (hEE.lt k hk).2⟩, by simp [hl], ?_, World.cell?_setCell_same _ _ _ x1, ?_, ?_, by simpa [World.setCell] using hg5', own_gg hA5 (set_grown _ _ _ _) (by omega), ?_⟩, ?_⟩
  · rw [World.cell?_setCell_other _ _ _ _ (by intro e; injection e; omega)]; exact x0
  · rw [World.frozen?_setCell]; exact y0
  · rw [World.frozen?_setCell]; exact y1
  · rw [endsL_snoc]
    have : ints (endsL ps ++ [sumL ps + lenE e]) = ints (endsL ps) ++ [.int .i64 (sumL ps + lenE e)] := by simp [ints]
    rw [this]
    exact own_gg hE5 (set_grown _ _ _ _) (by omega)
  · refine (Below.grown (hb.mono (Nat.le_of_lt hg)) hg5 (by omega) (fun k hk => Nat.le_of_lt (hr k hk))).setCell (Nat.le_refl _) _

theorem keep7 {W w' : World} {g : Nat} {v0 v1 v2 v3 v4 v5 v6 : Value} (hb : Below W.heap.size W w') (hlt : g < W.heap.size)
    (h : W.cell? ⟨g, 0, none⟩ = some v0 ∧ W.cell? ⟨g, 1, none⟩ = some v1 ∧ W.cell? ⟨g, 2, none⟩ = some v2 ∧ W.cell? ⟨g, 3, none⟩ = some v3 ∧ W.cell? ⟨g, 4, none⟩ = some v4 ∧ W.cell? ⟨g, 5, none⟩ = some v5 ∧ W.cell? ⟨g, 6, none⟩ = some v6) :
    w'.cell? ⟨g, 0, none⟩ = some v0 ∧ w'.cell? ⟨g, 1, none⟩ = some v1 ∧ w'.cell? ⟨g, 2, none⟩ = some v2 ∧ w'.cell? ⟨g, 3, none⟩ = some v3 ∧ w'.cell? ⟨g, 4, none⟩ = some v4 ∧ w'.cell? ⟨g, 5, none⟩ = some v5 ∧ w'.cell? ⟨g, 6, none⟩ = some v6 := by
  obtain ⟨h0, h1, h2, h3, h4, h5, h6⟩ := h
  exact ⟨(later_cell hb hlt).trans h0, (later_cell hb hlt).trans h1, (later_cell hb hlt).trans h2, (later_cell hb hlt).trans h3, (later_cell hb hlt).trans h4, (later_cell hb hlt).trans h5, (later_cell hb hlt).trans h6⟩
theorem keepg {W V w5 : World} {h g j : Nat} {row : Option Nat} {u v0 v1 v2 v3 v4 v5 v6 : Value} (hg : V.grownBy w5 row) (hb : Below W.heap.size W V) (hk : ∀ k, row = some k → k < h) (hlt : h < W.heap.size) (hne : g ≠ h)
    (H : W.cell? ⟨h, 0, none⟩ = some v0 ∧ W.cell? ⟨h, 1, none⟩ = some v1 ∧ W.cell? ⟨h, 2, none⟩ = some v2 ∧ W.cell? ⟨h, 3, none⟩ = some v3 ∧ W.cell? ⟨h, 4, none⟩ = some v4 ∧ W.cell? ⟨h, 5, none⟩ = some v5 ∧ W.cell? ⟨h, 6, none⟩ = some v6) :
    (w5.cell? ⟨h, 0, none⟩ = some v0 ∧ w5.cell? ⟨h, 1, none⟩ = some v1 ∧ w5.cell? ⟨h, 2, none⟩ = some v2 ∧ w5.cell? ⟨h, 3, none⟩ = some v3 ∧ w5.cell? ⟨h, 4, none⟩ = some v4 ∧ w5.cell? ⟨h, 5, none⟩ = some v5 ∧ w5.cell? ⟨h, 6, none⟩ = some v6) ∧
    ((w5.setCell ⟨g, j, none⟩ u).cell? ⟨h, 0, none⟩ = some v0 ∧ (w5.setCell ⟨g, j, none⟩ u).cell? ⟨h, 1, none⟩ = some v1 ∧ (w5.setCell ⟨g, j, none⟩ u).cell? ⟨h, 2, none⟩ = some v2 ∧ (w5.setCell ⟨g, j, none⟩ u).cell? ⟨h, 3, none⟩ = some v3 ∧
      (w5.setCell ⟨g, j, none⟩ u).cell? ⟨h, 4, none⟩ = some v4 ∧ (w5.setCell ⟨g, j, none⟩ u).cell? ⟨h, 5, none⟩ = some v5 ∧ (w5.setCell ⟨g, j, none⟩ u).cell? ⟨h, 6, none⟩ = some v6) := by
  have hc : ∀ i, w5.cell? ⟨h, i, none⟩ = W.cell? ⟨h, i, none⟩ := fun i =>
    (World.cell?_of_block (a := ⟨h, i, none⟩) (hg.block h (Nat.lt_of_lt_of_le hlt hb.size) (fun e => by have := hk h e.symm; omega))).trans (later_cell hb hlt)
  have hs : ∀ i, (w5.setCell ⟨g, j, none⟩ u).cell? ⟨h, i, none⟩ = w5.cell? ⟨h, i, none⟩ := fun i => World.cell?_setCell_far _ _ _ _ hne
  simp only [hs, hc]
  exact ⟨H, H⟩
theorem moved_no {e : Ed} (h : moved e = false) : e.x0 = e.x1 ∧ e.y0 = e.y1 := by
  simpa [moved] using h
theorem moved_x {e : Ed} (h : e.x0 ≠ e.x1) : moved e = true := by simp [moved, h]
theorem moved_y {e : Ed} (h : e.y0 ≠ e.y1) : moved e = true := by simp [moved, h]

set_option maxHeartbeats 2000000 in
theorem add_no (e : Ed) (g m n : Nat) (ps : List Ed) (w : World) (h : WSt w g m n ps) (hm : moved e = false) :
    Calls Try.prog 47 #[.agg #[.int .i64 e.x0, .int .i64 e.y0, .bool e.bent, .int .i64 e.cx, .int .i64 e.cy, .int .i64 e.x1, .int .i64 e.y1], .pointer (some ⟨g, 0, none⟩)] w
      fun r w' => r = .returned (.tuple #[]) ∧ WSt w' g w'.heap.size n ps ∧ Below g w w' ∧ Kept w w' m := by
  have hg : g < w.heap.size := by obtain ⟨_, _, _, _, _, _, _, _, _, _, hg, _⟩ := h; exact hg
  obtain ⟨h1, h2⟩ := moved_no hm
  have hx : (e.x0 == e.x1) = true := by simp [h1]
  have hy : (e.y0 == e.y1) = true := by simp [h2]
  have hx' : (e.x0 != e.x1) = false := by simp [h1]
  have hy' : (e.y0 != e.y1) = false := by simp [h2]
  clear h1 h2 hm
  go_enter Try.func47, Try.ntmps47
  go_wp2
  go_end0
  exact ⟨rfl, (h.below (bal (Below.refl _ _) _)).top, (bal (Below.refl w.heap.size w) _).mono (Nat.le_of_lt hg), Kept.of (bal (Below.refl _ _) _)⟩

/-- Two loads, named: they are branched over, not taken first. -/
def ldEnds : Oper := ⟨some 22, .load 22 (.tmp 21), 22, "dash.go:66", #[⟨0, .data⟩], none⟩
theorem ldEnds_is : (⟨some 22, .load 22 (.tmp 21), 22, "dash.go:66", #[⟨0, .data⟩], none⟩ : Oper) = ldEnds := rfl
def ldWay : Oper := ⟨some 23, .load 67 (.tmp 1), 67, "dash.go:66", #[], none⟩
theorem ldWay_is : (⟨some 23, .load 67 (.tmp 1), 67, "dash.go:66", #[], none⟩ : Oper) = ldWay := rfl
attribute [local go_sem] ldEnds ldWay

set_option maxRecDepth 100000 in
set_option maxHeartbeats 4000000 in
theorem add_yes (e : Ed) (g m n : Nat) (ps : List Ed) (w : World) (h : WSt w g m n ps) (hm : moved e = true) (hs : Strt e) (hp : ∀ d ∈ ps, Strt d) (hf : n ≤ 900) :
    Calls Try.prog 47 #[.agg #[.int .i64 e.x0, .int .i64 e.y0, .bool e.bent, .int .i64 e.cx, .int .i64 e.cy, .int .i64 e.x1, .int .i64 e.y1], .pointer (some ⟨g, 0, none⟩)] w
      fun r w' => r = .returned (.tuple #[]) ∧ WSt w' g w'.heap.size (n + 1) (ps ++ [e]) ∧ Below g w w' ∧ Kept w w' m := by
  obtain ⟨Ap, Ae, cp, ce, ⟨hgm, hms, hmA, hmE⟩, hl, c0, c1, f0, f1, hg, hA, hE⟩ := h
  have HMA := Lib.hid hmA
  have HME := Lib.hid hmE
  have HGM : Hid (g < m) := hgm
  clear hmA hmE hgm
  have HP := Lib.hid hp
  have HS := Lib.hid hs
  have HL := Lib.hid hl
  have hsp : 0 ≤ sumL ps ∧ sumL ps ≤ 30000000 := by
    have := sumL_bd (l := ps) (fun d hd => (hp d hd).2)
    have := sumL_nonneg ps
    omega
  have hlm := lenE_bd hs.2
  obtain ⟨sp, hspe⟩ : ∃ sp, sp = sumL ps := ⟨_, rfl⟩
  obtain ⟨lm, hlme⟩ : ∃ lm, lm = lenE e := ⟨_, rfl⟩
  rw [← hspe] at hsp
  rw [← hlme] at hlm
  have HSP := Lib.hid hspe
  have HLM := Lib.hid hlme
  clear hspe hlme
  have hd : (e.x0 != e.x1) = true ∨ ((e.x0 != e.x1) = false ∧ (e.y0 != e.y1) = true) := by
    by_cases h1 : e.x0 = e.x1
    · right
      refine ⟨by simp [h1], ?_⟩
      simp [moved, h1] at hm; simpa using hm
    · left; simp [h1]
  clear hp hs hl hm
  rcases hd with hx | ⟨hx, hy⟩
  all_goals
    go_enter Try.func47, Try.ntmps47
    go_wp2_with (at_builtin; refine wpList_app rfl _ _ 41 rfl (g + 1) edT2 rfl (own_below hA (bal (bal (Below.refl _ _) _) _)) (edc e) rfl (sl_newN _ (by simp) rfl) (oneCell_edc _) (by omega) (by simp; omega) ?_; intro A2 c2 w3 hown3 hg3 hat3; obtain ⟨hkm, ⟨x0, y0⟩, hx4⟩ := add_mid (m := m) (w := (w.alloc (.cells #[.int .i64 e.x0, .int .i64 e.y0, .bool e.bent, .int .i64 e.cx, .int .i64 e.cy, .int .i64 e.x1, .int .i64 e.y1] 45)).alloc (.cells #[.int .i64 e.x0, .int .i64 e.y0, .bool e.bent, .int .i64 e.cx, .int .i64 e.cy, .int .i64 e.x1, .int .i64 e.y1] 45)) (e := e) ((later_cell (bal (bal (Below.refl _ _) _) _) hg).trans c0) ((later_cell (bal (bal (Below.refl _ _) _) _) hg).trans c1) ((later_frozen (bal (bal (Below.refl _ _) _) _) hg).trans f0) ((later_frozen (bal (bal (Below.refl _ _) _) _) hg).trans f1) (by simp; omega) (own_below hA (bal (bal (Below.refl _ _) _) _)) (own_below hE (bal (bal (Below.refl _ _) _) _)) hown3 hg3 HGM.out HMA.out; have HX4 := Lib.hid hx4; have HKM := Lib.hid hkm; clear hx4 hkm)
    obtain ⟨⟨x1, x2, y1, y2, hg4⟩, hA4, hE4, B4⟩ := HX4.out
    have hbx : ∀ j, (w3.setCell ⟨g, 0, none⟩ (.slice A2 (n + 1) c2)).cell? ⟨w.heap.size, j, none⟩ = (#[Value.int .i64 e.x0, Value.int .i64 e.y0, Value.bool e.bent, Value.int .i64 e.cx, Value.int .i64 e.cy, Value.int .i64 e.x1, Value.int .i64 e.y1] : Array Value)[j]? := fun j => by
      rw [World.cell?_setCell_far _ _ _ _ (by show g ≠ w.heap.size; omega)]
      exact box_kept hA hg3 j
    have b0 : (w3.setCell ⟨g, 0, none⟩ (.slice A2 (n + 1) c2)).cell? ⟨w.heap.size, 0, none⟩ = some (.int .i64 e.x0) := hbx 0
    have b1 : (w3.setCell ⟨g, 0, none⟩ (.slice A2 (n + 1) c2)).cell? ⟨w.heap.size, 1, none⟩ = some (.int .i64 e.y0) := hbx 1
    have b2 : (w3.setCell ⟨g, 0, none⟩ (.slice A2 (n + 1) c2)).cell? ⟨w.heap.size, 2, none⟩ = some (.bool e.bent) := hbx 2
    have b3 : (w3.setCell ⟨g, 0, none⟩ (.slice A2 (n + 1) c2)).cell? ⟨w.heap.size, 3, none⟩ = some (.int .i64 e.cx) := hbx 3
    have b4 : (w3.setCell ⟨g, 0, none⟩ (.slice A2 (n + 1) c2)).cell? ⟨w.heap.size, 4, none⟩ = some (.int .i64 e.cy) := hbx 4
    have b5 : (w3.setCell ⟨g, 0, none⟩ (.slice A2 (n + 1) c2)).cell? ⟨w.heap.size, 5, none⟩ = some (.int .i64 e.x1) := hbx 5
    have b6 : (w3.setCell ⟨g, 0, none⟩ (.slice A2 (n + 1) c2)).cell? ⟨w.heap.size, 6, none⟩ = some (.int .i64 e.y1) := hbx 6
    have hw4 : ((w.alloc (.cells #[.int .i64 e.x0, .int .i64 e.y0, .bool e.bent, .int .i64 e.cx, .int .i64 e.cy, .int .i64 e.x1, .int .i64 e.y1] 45)).alloc (.cells #[.int .i64 e.x0, .int .i64 e.y0, .bool e.bent, .int .i64 e.cx, .int .i64 e.cy, .int .i64 e.x1, .int .i64 e.y1] 45)).heap.size ≤ (w3.setCell ⟨g, 0, none⟩ (.slice A2 (n + 1) c2)).heap.size := by have := hg3.size; simpa [World.setCell] using this
    have hwl : w.heap.size < (w3.setCell ⟨g, 0, none⟩ (.slice A2 (n + 1) c2)).heap.size := by have := hg3.size; simp [World.setCell] at this ⊢; omega
    have hEk : ∀ k, Value.ownBlock (.slice Ae n ce) = some k → k < w.heap.size := fun k hk => (hE.lt k hk).2
    have HEK := Lib.hid hEk
    have hgw : g ≠ w.heap.size := by omega
    have HGW := Lib.hid hgw
    clear HX4 hbx hown3 hg3 hat3 x0 y0 hA hE c0 c1 f0 f1 hEk hgw
    generalize w3.setCell ⟨g, 0, none⟩ (.slice A2 (n + 1) c2) = W4 at *
    have hS0 := And.intro b0 (And.intro b1 (And.intro b2 (And.intro b3 (And.intro b4 (And.intro b5 b6)))))
    have hsum : IntKind.i64.wrap (sp + lm) = sp + lm := IntWalk.i64_in _ (by omega)
    rw [ldEnds_is, ldWay_is]
    go_region_held3 (fun w' => w'.cell? ⟨w.heap.size, 0, none⟩ = some (.int .i64 e.x0) ∧ w'.cell? ⟨w.heap.size, 1, none⟩ = some (.int .i64 e.y0) ∧ w'.cell? ⟨w.heap.size, 2, none⟩ = some (.bool e.bent) ∧ w'.cell? ⟨w.heap.size, 3, none⟩ = some (.int .i64 e.cx) ∧ w'.cell? ⟨w.heap.size, 4, none⟩ = some (.int .i64 e.cy) ∧ w'.cell? ⟨w.heap.size, 5, none⟩ = some (.int .i64 e.x1) ∧ w'.cell? ⟨w.heap.size, 6, none⟩ = some (.int .i64 e.y1))
      (first | with_reducible exact hs5 | with_reducible exact hs6 | with_reducible exact keep7 (W := W4) BL hwl hS0 | with_reducible exact keep7 (W := W4) BM hwl hS0 | with_reducible exact keep7 (W := W4) (bal BL _) hwl hS0 | with_reducible exact keep7 (W := W4) (bal BM _) hwl hS0 | go_keep)
      (first
        | (go_at_call 29; refine (way_long_e _ _ _ _ _ _ ps _ HL.out (by omega) ((own_sl hE4).below (by repeat (first | with_reducible exact BM | with_reducible exact Below.refl _ _ | with_reducible refine bal ?_ _ | with_reducible refine bdrew ?_)))).mono ?_; rintro e' wL ⟨rfl, hbL⟩; rw [← HSP.out]; have BL : Below W4.heap.size W4 wL := btr (by repeat (first | with_reducible exact BM | with_reducible exact Below.refl _ _ | with_reducible refine bal ?_ _ | with_reducible refine bdrew ?_)) hbL; have l0 := (later_cell BL hg4).trans x1; have l1 := (later_cell BL hg4).trans x2; have lz := Nat.lt_of_lt_of_le hg4 BL.size; have lw := Nat.lt_of_lt_of_le hwl BL.size; clear hbL)
        | (go_at_call 48; refine (dash_Long_any e _ HS.out).mono ?_; rintro e' wM ⟨rfl, hbM⟩; rw [← HLM.out]; have BM : Below W4.heap.size W4 wM := btr (by repeat (first | with_reducible exact BL | with_reducible exact Below.refl _ _ | with_reducible refine bal ?_ _ | with_reducible refine bdrew ?_)) hbM; have m0 := (later_cell BM hg4).trans x1; have m1 := (later_cell BM hg4).trans x2; have mz := Nat.lt_of_lt_of_le hg4 BM.size; have mw := Nat.lt_of_lt_of_le hwl BM.size; clear hbM)
        | (refine step_app (by rfl) _ _ 22 (by rfl) (g + 1) inT2 (by rfl) (own_below hE4 (by repeat (first | with_reducible exact BL | with_reducible exact BM | with_reducible exact Below.refl _ _ | with_reducible refine bal ?_ _ | with_reducible refine bdrew ?_))) (ints [sp + lm]) (by rfl) (sl_newN _ (by simp) rfl) (oneCell_ints _) (by omega) (by simp; omega) ?_; intro A5 c5 w5 hown5 hg5 hat5; obtain ⟨hs5, hs6⟩ := keepg (u := .slice A5 (n + 1) c5) (g := g) (j := 1) hg5 (by repeat (first | with_reducible exact BL | with_reducible exact BM | with_reducible exact Below.refl _ _ | with_reducible refine bal ?_ _ | with_reducible refine bdrew ?_)) HEK.out hwl HGW.out hS0; obtain ⟨hke, ⟨z1, z2⟩, hst, hbe⟩ := add_end HL.out x1 x2 y1 y2 hg4 hA4 hE4 (by repeat (first | with_reducible exact BL | with_reducible exact BM | with_reducible exact Below.refl _ _ | with_reducible refine bal ?_ _ | with_reducible refine bdrew ?_)) (by rw [← HSP.out, ← HLM.out]; exact hown5) hg5 HGM.out HME.out; have HKE := Lib.hid hke; clear hke; have HST := Lib.hid hst; have HBE := Lib.hid hbe; clear hst hbe hown5 hg5 hat5))
    all_goals
      go_end0
      exact ⟨rfl, HST.out, (((bal (bal (Below.refl w.heap.size w) _) _).mono (Nat.le_of_lt hg)).trans B4).trans HBE.out, ((Kept.of (bal (bal (Below.refl _ _) _) _)).tr (bal (bal (Below.refl _ _) _) _).size HKM.out).tr (Nat.le_of_lt hwl) HKE.out⟩

theorem add_any (e : Ed) (g m n : Nat) (ps : List Ed) (w : World) (h : WSt w g m n ps) (hs : Strt e) (hp : ∀ d ∈ ps, Strt d) (hf : n ≤ 900) :
    Calls Try.prog 47 #[.agg #[.int .i64 e.x0, .int .i64 e.y0, .bool e.bent, .int .i64 e.cx, .int .i64 e.cy, .int .i64 e.x1, .int .i64 e.y1], .pointer (some ⟨g, 0, none⟩)] w
      fun r w' => r = .returned (.tuple #[]) ∧ WSt w' g w'.heap.size (ps ++ [e].filter moved).length (ps ++ [e].filter moved) ∧ Below g w w' ∧ Kept w w' m := by
  have hl : ps.length = n := by obtain ⟨_, _, _, _, _, hl, _⟩ := h; exact hl
  cases hm : moved e
  · have : ps ++ [e].filter moved = ps := by simp [hm]
    rw [this, hl]
    exact add_no e g m n ps w h hm
  · have : ps ++ [e].filter moved = ps ++ [e] := by simp [hm]
    rw [this, List.length_append, hl]
    exact add_yes e g m n ps w h hm hs hp hf
end Go.Proofs.Ytacolepcpbhceaa
