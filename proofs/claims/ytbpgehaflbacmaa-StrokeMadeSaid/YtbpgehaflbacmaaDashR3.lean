/- The reference's way. -/
import Derived.Test.YtbpgehaflbacmaaDashR2
import Derived.Test.YtbpgehaflbacmaaDash6
namespace Go.Proofs.Ytbpgehaflbacmaa
open Go.RowKit

/-- Where each piece begins. -/
def begL (l : List Ed) : List Int := (List.range l.length).map fun i => sumL (l.take i)
def begTo (l : List Ed) (k : Nat) : List Int := (List.range k).map fun i => sumL (l.take i)
theorem begTo_succ (l : List Ed) (k : Nat) : begTo l (k + 1) = begTo l k ++ [sumL (l.take k)] := by simp [begTo, List.range_succ]
theorem begL_len (l : List Ed) : (begL l).length = l.length := by simp [begL]
/-- The reference's way in memory. -/
structure RWayIn (w : World) (Ap Aa : Option Addr) (n : Nat) (ps : List Ed) : Prop where
  len : ps.length = n
  few : n ≤ 1000
  all : ∀ e ∈ ps, Strt e ∧ moved e = true
  p : Sl w 7 Ap n (eds ps)
  a : Sl w 1 Aa n (ints (begL ps))
theorem RWayIn.below {w w' : World} {Ap Aa : Option Addr} {n : Nat} {ps : List Ed} (h : RWayIn w Ap Aa n ps) (hb : Below w.heap.size w w') : RWayIn w' Ap Aa n ps := ⟨h.len, h.few, h.all, h.p.below hb, h.a.below hb⟩
theorem keep8s {w : World} {g b o j : Nat} {x u v0 v1 v2 v3 v4 v5 v6 : Value} (hgb : g ≠ b) (hj : j ≠ 0)
    (h : w.cell? ⟨g, 0, none⟩ = some u ∧ w.cell? ⟨b, o, none⟩ = some v0 ∧ w.cell? ⟨b, o + 1, none⟩ = some v1 ∧ w.cell? ⟨b, o + 2, none⟩ = some v2 ∧ w.cell? ⟨b, o + 3, none⟩ = some v3 ∧ w.cell? ⟨b, o + 4, none⟩ = some v4 ∧ w.cell? ⟨b, o + 5, none⟩ = some v5 ∧ w.cell? ⟨b, o + 6, none⟩ = some v6) :
    (w.setCell ⟨g, j, none⟩ x).cell? ⟨g, 0, none⟩ = some u ∧ (w.setCell ⟨g, j, none⟩ x).cell? ⟨b, o, none⟩ = some v0 ∧ (w.setCell ⟨g, j, none⟩ x).cell? ⟨b, o + 1, none⟩ = some v1 ∧ (w.setCell ⟨g, j, none⟩ x).cell? ⟨b, o + 2, none⟩ = some v2 ∧
      (w.setCell ⟨g, j, none⟩ x).cell? ⟨b, o + 3, none⟩ = some v3 ∧ (w.setCell ⟨g, j, none⟩ x).cell? ⟨b, o + 4, none⟩ = some v4 ∧ (w.setCell ⟨g, j, none⟩ x).cell? ⟨b, o + 5, none⟩ = some v5 ∧ (w.setCell ⟨g, j, none⟩ x).cell? ⟨b, o + 6, none⟩ = some v6 := by
  have hs : ∀ i, (w.setCell ⟨g, j, none⟩ x).cell? ⟨b, i, none⟩ = w.cell? ⟨b, i, none⟩ := fun i => World.cell?_setCell_far _ _ _ _ hgb
  have h0 : (w.setCell ⟨g, j, none⟩ x).cell? ⟨g, 0, none⟩ = w.cell? ⟨g, 0, none⟩ := World.cell?_setCell_other _ _ _ _ (by intro e; injection e with _ e; exact hj e)
  simp only [hs, h0]
  exact h
/-- The state of way's loop. -/
def RWSt (w : World) (g k m cp : Nat) (Ap : Option Addr) (ps : List Ed) : Prop :=
  ∃ (Aa : Option Addr) (ca : Nat), w.cell? ⟨g, 0, none⟩ = some (.slice Ap m cp) ∧ w.cell? ⟨g, 1, none⟩ = some (.slice Aa k ca) ∧ w.cell? ⟨g, 2, none⟩ = some (.int .i64 (sumL (ps.take k))) ∧ (∀ j, w.frozen? ⟨g, j, none⟩ = false) ∧ g < w.heap.size ∧
    w.ownsRow (g + 1) 3 1 (.slice Aa k ca) k (ints (begTo ps k))
theorem RWSt.below {w w' : World} {g k m cp : Nat} {Ap : Option Addr} {ps : List Ed} (h : RWSt w g k m cp Ap ps) (hb : Below w.heap.size w w') : RWSt w' g k m cp Ap ps := by
  obtain ⟨Aa, ca, c0, c1, c2, f, hg, ho⟩ := h
  exact ⟨Aa, ca, (later_cell hb hg).trans c0, (later_cell hb hg).trans c1, (later_cell hb hg).trans c2, fun j => (later_frozen hb hg).trans (f j), Nat.lt_of_lt_of_le hg hb.size, own_below ho hb⟩
/-- After the first store: the place where the piece begins is told. -/
theorem rway_mid {w w3 : World} {g k m cp ca c2 : Nat} {Ap Aa A2 : Option Addr} {ps : List Ed} {z : Int} (c0 : w.cell? ⟨g, 0, none⟩ = some (.slice Ap m cp)) (c1 : w.cell? ⟨g, 1, none⟩ = some (.slice Aa k ca)) (cN : w.cell? ⟨g, 2, none⟩ = some (.int .i64 z)) (hf : ∀ j, w.frozen? ⟨g, j, none⟩ = false) (hg : g < w.heap.size)
    (ho : w.ownsRow (g + 1) 3 1 (.slice Aa k ca) k (ints (begTo ps k))) (hz : z = sumL (ps.take k))
    (ho3 : w3.ownsRow (g + 1) 3 1 (.slice A2 (k + 1) c2) (k + 1) (ints (begTo ps k) ++ ints [z])) (hg3 : w.grownBy w3 (Value.ownBlock (.slice Aa k ca))) :
    (w3.cell? ⟨g, 1, none⟩ = some (.slice Aa k ca) ∧ w3.frozen? ⟨g, 1, none⟩ = false) ∧
    ((w3.setCell ⟨g, 1, none⟩ (.slice A2 (k + 1) c2)).cell? ⟨g, 0, none⟩ = some (.slice Ap m cp) ∧ (w3.setCell ⟨g, 1, none⟩ (.slice A2 (k + 1) c2)).cell? ⟨g, 1, none⟩ = some (.slice A2 (k + 1) c2) ∧ (w3.setCell ⟨g, 1, none⟩ (.slice A2 (k + 1) c2)).cell? ⟨g, 2, none⟩ = some (.int .i64 z) ∧
      (∀ j, (w3.setCell ⟨g, 1, none⟩ (.slice A2 (k + 1) c2)).frozen? ⟨g, j, none⟩ = false) ∧ g < (w3.setCell ⟨g, 1, none⟩ (.slice A2 (k + 1) c2)).heap.size) ∧
    (w3.setCell ⟨g, 1, none⟩ (.slice A2 (k + 1) c2)).ownsRow (g + 1) 3 1 (.slice A2 (k + 1) c2) (k + 1) (ints (begTo ps (k + 1))) ∧ Below g w (w3.setCell ⟨g, 1, none⟩ (.slice A2 (k + 1) c2)) := by
  have hr : ∀ q, Value.ownBlock (.slice Aa k ca) = some q → g < q := fun q hq => (ho.lt q hq).1
  have hbk : w3.heap[g]? = w.heap[g]? := hg3.block g hg (fun e => by have := hr g e.symm; omega)
  have x0 := (World.cell?_of_block (a := ⟨g, 0, none⟩) hbk).trans c0
  have x1 := (World.cell?_of_block (a := ⟨g, 1, none⟩) hbk).trans c1
  have x2 := (World.cell?_of_block (a := ⟨g, 2, none⟩) hbk).trans cN
  have y : ∀ j, w3.frozen? ⟨g, j, none⟩ = false := fun j => (World.frozen?_of_block (a := ⟨g, j, none⟩) hbk).trans (hf j)
  have hgl : g < w3.heap.size := Nat.lt_of_lt_of_le hg hg3.size
  refine ⟨⟨x1, y 1⟩, ⟨?_, World.cell?_setCell_same _ _ _ x1, ?_, fun j => by rw [World.frozen?_setCell]; exact y j, by simpa [World.setCell] using hgl⟩, ?_, ?_⟩
  · rw [World.cell?_setCell_other _ _ _ _ (by simp)]; exact x0
  · rw [World.cell?_setCell_other _ _ _ _ (by simp)]; exact x2
  · rw [begTo_succ, ints_app, ← hz]; exact own_gg ho3 (set_grown _ _ _ _) (by omega)
  · exact (Below.grown (Below.refl g w) hg3 (by omega) (fun q hq => Nat.le_of_lt (hr q hq))).setCell (Nat.le_refl _) _

theorem rway_end {w V : World} {g k m cp c2 : Nat} {Ap A2 : Option Addr} {ps : List Ed} {z y : Int} (d0 : w.cell? ⟨g, 0, none⟩ = some (.slice Ap m cp)) (d1 : w.cell? ⟨g, 1, none⟩ = some (.slice A2 (k + 1) c2)) (d2 : w.cell? ⟨g, 2, none⟩ = some (.int .i64 z)) (df : ∀ j, w.frozen? ⟨g, j, none⟩ = false) (hg : g < w.heap.size)
    (ho : w.ownsRow (g + 1) 3 1 (.slice A2 (k + 1) c2) (k + 1) (ints (begTo ps (k + 1)))) (hb : Below w.heap.size w V) (hy : y = sumL (ps.take (k + 1))) :
    RWSt (V.setCell ⟨g, 2, none⟩ (.int .i64 y)) g (k + 1) m cp Ap ps := by
  refine ⟨A2, c2, ?_, ?_, ?_, fun j => by rw [World.frozen?_setCell]; exact (later_frozen hb hg).trans (df j), by simpa [World.setCell] using Nat.lt_of_lt_of_le hg hb.size, own_gg (own_below ho hb) (set_grown _ _ _ _) (by omega)⟩
  · rw [World.cell?_setCell_other _ _ _ _ (by simp)]; exact (later_cell hb hg).trans d0
  · rw [World.cell?_setCell_other _ _ _ _ (by simp)]; exact (later_cell hb hg).trans d1
  · rw [← hy]; exact World.cell?_setCell_same _ _ _ ((later_cell hb hg).trans d2)
theorem three_set {w : World} {g : Nat} {u0 u1 u2 v0 v1 v2 : Value} (r0 : w.cell? ⟨g, 0, none⟩ = some u0) (r1 : w.cell? ⟨g, 1, none⟩ = some u1) (r2 : w.cell? ⟨g, 2, none⟩ = some u2) :
    (((w.setCell ⟨g, 0, none⟩ v0).setCell ⟨g, 1, none⟩ v1).setCell ⟨g, 2, none⟩ v2).cell? ⟨g, 0, none⟩ = some v0 ∧ (((w.setCell ⟨g, 0, none⟩ v0).setCell ⟨g, 1, none⟩ v1).setCell ⟨g, 2, none⟩ v2).cell? ⟨g, 1, none⟩ = some v1 ∧ (((w.setCell ⟨g, 0, none⟩ v0).setCell ⟨g, 1, none⟩ v1).setCell ⟨g, 2, none⟩ v2).cell? ⟨g, 2, none⟩ = some v2 := by
  obtain ⟨a0, a1⟩ := two_set (v0 := v0) (v1 := v1) r0 r1
  have a2 : ((w.setCell ⟨g, 0, none⟩ v0).setCell ⟨g, 1, none⟩ v1).cell? ⟨g, 2, none⟩ = some u2 := by
    rw [World.cell?_setCell_other _ _ _ _ (by simp), World.cell?_setCell_other _ _ _ _ (by simp)]; exact r2
  refine ⟨?_, ?_, World.cell?_setCell_same _ _ _ a2⟩
  · rw [World.cell?_setCell_other _ _ _ _ (by simp)]; exact a0
  · rw [World.cell?_setCell_other _ _ _ _ (by simp)]; exact a1

/-- The load of the sum, named: it is branched over, not taken first. -/
def ldSum : Oper := ⟨some 28, .load 3 (.tmp 27), 3, "ref.go:182", #[⟨0, .data⟩], none⟩
theorem ldSum_is : (⟨some 28, .load 3 (.tmp 27), 3, "ref.go:182", #[⟨0, .data⟩], none⟩ : Oper) = ldSum := rfl
attribute [local go_sem] ldSum

end Go.Proofs.Ytbpgehaflbacmaa
