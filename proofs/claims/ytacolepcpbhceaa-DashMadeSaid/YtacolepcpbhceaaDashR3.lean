/- The reference's way. -/
import Derived.Test.YtacolepcpbhceaaDashR2
import Derived.Test.YtacolepcpbhceaaDash6
namespace Go.Proofs.Ytacolepcpbhceaa
open Go.RowKit

/-- Where each piece begins. -/
def begL (l : List Ed) : List Int := (List.range l.length).map fun i => sumL (l.take i)
def begTo (l : List Ed) (k : Nat) : List Int := (List.range k).map fun i => sumL (l.take i)
theorem begTo_succ (l : List Ed) (k : Nat) : begTo l (k + 1) = begTo l k ++ [sumL (l.take k)] := by simp [begTo, List.range_succ]
theorem begL_len (l : List Ed) : (begL l).length = l.length := by simp [begL]
/-- The reference's way in memory. -/
structure RWayIn (w : World) (Ap Aa : Option Addr) (n : Nat) (ps : List Ed) : Prop where
  len : ps.length = n
  few : n ≤ 1000
  all : ∀ e ∈ ps, Strt e ∧ moved e = true
  p : Sl w 7 Ap n (eds ps)
  a : Sl w 1 Aa n (ints (begL ps))
theorem RWayIn.below {w w' : World} {Ap Aa : Option Addr} {n : Nat} {ps : List Ed} (h : RWayIn w Ap Aa n ps) (hb : Below w.heap.size w w') : RWayIn w' Ap Aa n ps := ⟨h.len, h.few, h.all, h.p.below hb, h.a.below hb⟩
theorem keep8s {w : World} {g b o j : Nat} {x u v0 v1 v2 v3 v4 v5 v6 : Value} (hgb : g ≠ b) (hj : j ≠ 0)
    (h : w.cell? ⟨g, 0, none⟩ = some u ∧ w.cell? ⟨b, o, none⟩ = some v0 ∧ w.cell? ⟨b, o + 1, none⟩ = some v1 ∧ w.cell? ⟨b, o + 2, none⟩ = some v2 ∧ w.cell? ⟨b, o + 3, none⟩ = some v3 ∧ w.cell? ⟨b, o + 4, none⟩ = some v4 ∧ w.cell? ⟨b, o + 5, none⟩ = some v5 ∧ w.cell? ⟨b, o + 6, none⟩ = some v6) :
    (w.setCell ⟨g, j, none⟩ x).cell? ⟨g, 0, none⟩ = some u ∧ (w.setCell ⟨g, j, none⟩ x).cell? ⟨b, o, none⟩ = some v0 ∧ (w.setCell ⟨g, j, none⟩ x).cell? ⟨b, o + 1, none⟩ = some v1 ∧ (w.setCell ⟨g, j, none⟩ x).cell? ⟨b, o + 2, none⟩ = some v2 ∧
      (w.setCell ⟨g, j, none⟩ x).cell? ⟨b, o + 3, none⟩ = some v3 ∧ (w.setCell ⟨g, j, none⟩ x).cell? ⟨b, o + 4, none⟩ = some v4 ∧ (w.setCell ⟨g, j, none⟩ x).cell? ⟨b, o + 5, none⟩ = some v5 ∧ (w.setCell ⟨g, j, none⟩ x).cell? ⟨b, o + 6, none⟩ = some v6 := by
  have hs : ∀ i, (w.setCell ⟨g, j, none⟩ x).cell? ⟨b, i, none⟩ = w.cell? ⟨b, i, none⟩ := fun i => World.cell?_setCell_far _ _ _ _ hgb
  have h0 : (w.setCell ⟨g, j, none⟩ x).cell? ⟨g, 0, none⟩ = w.cell? ⟨g, 0, none⟩ := World.cell?_setCell_other _ _ _ _ (by intro e; injection e with _ e; exact hj e)
  simp only [hs, h0]
  exact h
/-- The state of way's loop. -/
def RWSt (w : World) (g k m cp : Nat) (Ap : Option Addr) (ps : List Ed) : Prop :=
  ∃ (Aa : Option Addr) (ca : Nat), w.cell? ⟨g, 0, none⟩ = some (.slice Ap m cp) ∧ w.cell? ⟨g, 1, none⟩ = some (.slice Aa k ca) ∧ w.cell? ⟨g, 2, none⟩ = some (.int .i64 (sumL (ps.take k))) ∧ (∀ j, w.frozen? ⟨g, j, none⟩ = false) ∧ g < w.heap.size ∧
    w.ownsRow (g + 1) 3 1 (.slice Aa k ca) k (ints (begTo ps k))
theorem RWSt.below {w w' : World} {g k m cp : Nat} {Ap : Option Addr} {ps : List Ed} (h : RWSt w g k m cp Ap ps) (hb : Below w.heap.size w w') : RWSt w' g k m cp Ap ps := by
  obtain ⟨Aa, ca, c0, c1, c2, f, hg, ho⟩ := h
  exact ⟨Aa, ca, (later_cell hb hg).trans c0, (later_cell hb hg).trans c1, (later_cell hb hg).trans c2, fun j => (later_frozen hb hg).trans (f j), Nat.lt_of_lt_of_le hg hb.size, own_below ho hb⟩
/-- After the first store: the place where the piece begins is told. -/
theorem rway_mid {w w3 : World} {g k m cp ca c2 : Nat} {Ap Aa A2 : Option Addr} {ps : List Ed} {z : Int} (c0 : w.cell? ⟨g, 0, none⟩ = some (.slice Ap m cp)) (c1 : w.cell? ⟨g, 1, none⟩ = some (.slice Aa k ca)) (cN : w.cell? ⟨g, 2, none⟩ = some (.int .i64 z)) (hf : ∀ j, w.frozen? ⟨g, j, none⟩ = false) (hg : g < w.heap.size)
    (ho : w.ownsRow (g + 1) 3 1 (.slice Aa k ca) k (ints (begTo ps k))) (hz : z = sumL (ps.take k))
    (ho3 : w3.ownsRow (g + 1) 3 1 (.slice A2 (k + 1) c2) (k + 1) (ints (begTo ps k) ++ ints [z])) (hg3 : w.grownBy w3 (Value.ownBlock (.slice Aa k ca))) :
    (w3.cell? ⟨g, 1, none⟩ = some (.slice Aa k ca) ∧ w3.frozen? ⟨g, 1, none⟩ = false) ∧
    ((w3.setCell ⟨g, 1, none⟩ (.slice A2 (k + 1) c2)).cell? ⟨g, 0, none⟩ = some (.slice Ap m cp) ∧ (w3.setCell ⟨g, 1, none⟩ (.slice A2 (k + 1) c2)).cell? ⟨g, 1, none⟩ = some (.slice A2 (k + 1) c2) ∧ (w3.setCell ⟨g, 1, none⟩ (.slice A2 (k + 1) c2)).cell? ⟨g, 2, none⟩ = some (.int .i64 z) ∧
      (∀ j, (w3.setCell ⟨g, 1, none⟩ (.slice A2 (k + 1) c2)).frozen? ⟨g, j, none⟩ = false) ∧ g < (w3.setCell ⟨g, 1, none⟩ (.slice A2 (k + 1) c2)).heap.size) ∧
    (w3.setCell ⟨g, 1, none⟩ (.slice A2 (k + 1) c2)).ownsRow (g + 1) 3 1 (.slice A2 (k + 1) c2) (k + 1) (ints (begTo ps (k + 1))) ∧ Below g w (w3.setCell ⟨g, 1, none⟩ (.slice A2 (k + 1) c2)) := by
  have hr : ∀ q, Value.ownBlock (.slice Aa k ca) = some q → g < q := fun q hq => (ho.lt q hq).1
  have hbk : w3.heap[g]? = w.heap[g]? := hg3.block g hg (fun e => by have := hr g e.symm; omega)
  have x0 := (World.cell?_of_block (a := ⟨g, 0, none⟩) hbk).trans c0
  have x1 := (World.cell?_of_block (a := ⟨g, 1, none⟩) hbk).trans c1
  have x2 := (World.cell?_of_block (a := ⟨g, 2, none⟩) hbk).trans cN
  have y : ∀ j, w3.frozen? ⟨g, j, none⟩ = false := fun j => (World.frozen?_of_block (a := ⟨g, j, none⟩) hbk).trans (hf j)
  have hgl : g < w3.heap.size := Nat.lt_of_lt_of_le hg hg3.size
  refine ⟨⟨x1, y 1⟩, ⟨?_, World.cell?_setCell_same _ _ _ x1, ?_, fun j => by rw [World.frozen?_setCell]; exact y j, by simpa [World.setCell] using hgl⟩, ?_, ?_⟩
  · rw [World.cell?_setCell_other _ _ _ _ (by simp)]; exact x0
  · rw [World.cell?_setCell_other _ _ _ _ (by simp)]; exact x2
  · rw [begTo_succ, ints_app, ← hz]; exact own_gg ho3 (set_grown _ _ _ _) (by omega)
  · exact (Below.grown (Below.refl g w) hg3 (by omega) (fun q hq => Nat.le_of_lt (hr q hq))).setCell (Nat.le_refl _) _

theorem rway_end {w V : World} {g k m cp c2 : Nat} {Ap A2 : Option Addr} {ps : List Ed} {z y : Int} (d0 : w.cell? ⟨g, 0, none⟩ = some (.slice Ap m cp)) (d1 : w.cell? ⟨g, 1, none⟩ = some (.slice A2 (k + 1) c2)) (d2 : w.cell? ⟨g, 2, none⟩ = some (.int .i64 z)) (df : ∀ j, w.frozen? ⟨g, j, none⟩ = false) (hg : g < w.heap.size)
    (ho : w.ownsRow (g + 1) 3 1 (.slice A2 (k + 1) c2) (k + 1) (ints (begTo ps (k + 1)))) (hb : Below w.heap.size w V) (hy : y = sumL (ps.take (k + 1))) :
    RWSt (V.setCell ⟨g, 2, none⟩ (.int .i64 y)) g (k + 1) m cp Ap ps := by
  refine ⟨A2, c2, ?_, ?_, ?_, fun j => by rw [World.frozen?_setCell]; exact (later_frozen hb hg).trans (df j), by simpa [World.setCell] using Nat.lt_of_lt_of_le hg hb.size, own_gg (own_below ho hb) (set_grown _ _ _ _) (by omega)⟩
  · rw [World.cell?_setCell_other _ _ _ _ (by simp)]; exact (later_cell hb hg).trans d0
  · rw [World.cell?_setCell_other _ _ _ _ (by simp)]; exact (later_cell hb hg).trans d1
  · rw [← hy]; exact World.cell?_setCell_same _ _ _ ((later_cell hb hg).trans d2)
theorem three_set {w : World} {g : Nat} {u0 u1 u2 v0 v1 v2 : Value} (r0 : w.cell? ⟨g, 0, none⟩ = some u0) (r1 : w.cell? ⟨g, 1, none⟩ = some u1) (r2 : w.cell? ⟨g, 2, none⟩ = some u2) :
    (((w.setCell ⟨g, 0, none⟩ v0).setCell ⟨g, 1, none⟩ v1).setCell ⟨g, 2, none⟩ v2).cell? ⟨g, 0, none⟩ = some v0 ∧ (((w.setCell ⟨g, 0, none⟩ v0).setCell ⟨g, 1, none⟩ v1).setCell ⟨g, 2, none⟩ v2).cell? ⟨g, 1, none⟩ = some v1 ∧ (((w.setCell ⟨g, 0, none⟩ v0).setCell ⟨g, 1, none⟩ v1).setCell ⟨g, 2, none⟩ v2).cell? ⟨g, 2, none⟩ = some v2 := by
  obtain ⟨a0, a1⟩ := two_set (v0 := v0) (v1 := v1) r0 r1
  have a2 : ((w.setCell ⟨g, 0, none⟩ v0).setCell ⟨g, 1, none⟩ v1).cell? ⟨g, 2, none⟩ = some u2 := by
    rw [World.cell?_setCell_other _ _ _ _ (by simp), World.cell?_setCell_other _ _ _ _ (by simp)]; exact r2
  refine ⟨?_, ?_, World.cell?_setCell_same _ _ _ a2⟩
  · rw [World.cell?_setCell_other _ _ _ _ (by simp)]; exact a0
  · rw [World.cell?_setCell_other _ _ _ _ (by simp)]; exact a1

/-- The load of the sum, named: it is branched over, not taken first. -/
def ldSum : Oper := ⟨some 28, .load 3 (.tmp 27), 3, "ref.go:182", #[⟨0, .data⟩], none⟩
theorem ldSum_is : (⟨some 28, .load 3 (.tmp 27), 3, "ref.go:182", #[⟨0, .data⟩], none⟩ : Oper) = ldSum := rfl
attribute [local go_sem] ldSum

set_option maxRecDepth 100000 in
set_option maxHeartbeats 4000000 in
theorem rway_any (ct : Ct) (A : Option Addr) (n c : Nat) (ps : List Ed) (m : Nat) (N : Int) (w : World) (hn : n ≤ 400) (h : Sl w 7 A n (eds ct.es)) (hgd : GoodC ct) (hbt : ∀ e ∈ ct.es, e.bent = false) (hps : piecesC ct = ps) (hm : ps.length = m) (hN : sumL ps = N) :
    Calls Try.prog 34 #[.agg #[.int .i64 ct.x, .int .i64 ct.y, .slice A n c, .bool ct.shut]] w
      fun e w' => ∃ (Ap Aa : Option Addr) (cp ca : Nat), e = .returned (.agg #[.slice Ap m cp, .slice Aa m ca, .int .i64 N]) ∧ RWayIn w' Ap Aa m ps ∧ Below w.heap.size w w' ∧ ∀ a, Ap = some a ∨ Aa = some a → w.heap.size ≤ a.block := by
  have hok : ∀ e ∈ ps, Strt e ∧ moved e = true := by rw [← hps]; exact piecesC_ok hgd hbt
  have hm4 : m ≤ 401 := by rw [← hm, ← hps]; have := piecesC_len ct; have := h.edlen; omega
  have HOK := Lib.hid hok
  have HGD := Lib.hid hgd
  have HPS := Lib.hid hps
  have HM := Lib.hid hm
  have HN := Lib.hid hN
  clear hok hgd hps hm hN hbt
  go_enter Try.func34, Try.ntmps34
  go_wp2_with fail
  refine (Pieces_any ct A n c ps m _ hn (h.below (bal (bal (Below.refl _ _) _) _)) HGD.out HPS.out HM.out).mono ?_; rintro e w1 ⟨Ap, cp, rfl, hown1, hb1⟩
  have hB1 := btr (bal (bal (Below.refl w.heap.size w) (.cells #[.int .i64 ct.x, .int .i64 ct.y, .slice A n c, .bool ct.shut] 76)) (.cells #[.slice none 0 0, .slice none 0 0, .int .i64 0] 74)) hb1
  have hab : ∀ a, Ap = some a → w.heap.size + 2 ≤ a.block ∧ a.block < w1.heap.size := fun a e => by
    subst e
    have := hown1.lt a.block rfl
    simp at this; omega
  have hp1 := own_sl hown1
  have hr0 : ∀ j, w1.cell? ⟨w.heap.size + 1, j, none⟩ = (#[Value.slice none 0 0, Value.slice none 0 0, Value.int .i64 0] : Array Value)[j]? ∧ w1.frozen? ⟨w.heap.size + 1, j, none⟩ = false := fun j => by
    have e : w.heap.size + 1 = (w.alloc (.cells #[.int .i64 ct.x, .int .i64 ct.y, .slice A n c, .bool ct.shut] 76)).heap.size := by simp
    rw [e]
    exact ⟨(later_cell hb1 (by simp)).trans (new_cell _ j), (later_frozen hb1 (by simp)).trans (frozen_of_row _ _ _ _ _ (heap_alloc_new _ _))⟩
  have hz1 : w.heap.size + 1 < w1.heap.size := Nat.lt_of_lt_of_le (by simp) hb1.size
  have HAB := Lib.hid hab
  have HR0 := Lib.hid hr0
  clear hown1 hb1 hab hr0 h
  go_wp2
  have hst : RWSt (w1.alloc (.cells #[.slice Ap m cp, .slice none 0 0, .int .i64 0] 74)) w1.heap.size 0 m cp Ap ps :=
    ⟨none, 0, new_cell _ 0, new_cell _ 1, new_cell _ 2, fun j => frozen_of_row _ _ _ _ _ (heap_alloc_new _ _), by simp, own_nil⟩
  go_loopw [6] (fun i wr => ∃ k : Nat, k ≤ m ∧ i = .int .i64 (k : Int) ∧ Below w1.heap.size w1 wr ∧ RWSt wr w1.heap.size k m cp Ap ps) (fun i _ => m - (intOf i).toNat)
  case atStart => exact ⟨0, by omega, rfl, bal (Below.refl _ _) _, hst⟩
  case round =>
    obtain ⟨wo, rfl⟩ : ∃ wo : World, wo = wr := ⟨_, rfl⟩
    obtain ⟨k, hk, rfl, hbo, Aa, ca, c0, c1, c2, hf, hg, ho⟩ := hrel
    have hf1 := hf 1
    have hf2 := hf 2
    have hp1o := hp1.below hbo
    clear hst
    by_cases hlt : k < m
    · have hkl : k < ps.length := by rw [HM.out]; exact hlt
      obtain ⟨bp, op, rfl, hbp, e0, e1, e2, e3, e4, e5, e6⟩ := hp1.ed k hlt hkl
      have hse := (HOK.out _ (List.getElem_mem hkl)).1
      have hsk := sumL_take ps k hkl
      have hsb := sumL_bd (l := ps) (fun e he => (HOK.out e he).1.2)
      have hsl1 := sumL_take_le ps k
      have hsl0 := sumL_nonneg (ps.take k)
      rw [HM.out] at hsb
      obtain ⟨ed, hed⟩ : ∃ ed, ed = ps[k] := ⟨_, rfl⟩
      obtain ⟨z, hz⟩ : ∃ z, z = sumL (ps.take k) := ⟨_, rfl⟩
      rw [← hed] at e0 e1 e2 e3 e4 e5 e6 hse hsk
      rw [← hz] at c2 hsk hsl0 hsl1
      have hlb := lenE_bd hse.2
      obtain ⟨lm, hlm⟩ : ∃ lm, lm = lenE ed := ⟨_, rfl⟩
      rw [← hlm] at hsk hlb
      have hz9 : 0 ≤ z ∧ z ≤ 10000000 := by omega
      have HSE := Lib.hid hse
      have HSK := Lib.hid hsk
      have HZ := Lib.hid hz
      have HLM := Lib.hid hlm
      have HF := Lib.hid hf
      clear hed hse hsk hz hlm hf hsb hsl1 hsl0
      go_wp2_with (at_builtin; refine wpList_app rfl _ _ 22 rfl (w1.heap.size + 1) inT2 rfl (own_below ho (bal (Below.refl _ _) _)) (ints [z]) rfl (sl_newN _ (by simp) rfl) (oneCell_ints _) (by omega) (by simp; omega) ?_; intro A2 c2' w3 hown3 hg3 hat3; obtain ⟨⟨x1, y1⟩, hx⟩ := rway_mid (g := w1.heap.size) ((later_cell (bal (Below.refl _ _) _) hg).trans c0) ((later_cell (bal (Below.refl _ _) _) hg).trans c1) ((later_cell (bal (Below.refl _ _) _) hg).trans c2) (fun j => (later_frozen (bal (Below.refl _ _) _) hg).trans (HF.out j)) (by simp; omega) (own_below ho (bal (Below.refl _ _) _)) HZ.out hown3 hg3; have HX := Lib.hid hx; clear hx hown3 hg3 hat3)
      obtain ⟨⟨d0, d1, d2, df, hg4⟩, ho4, B4⟩ := HX.out
      have hbW := hbo.trans (((bal (Below.refl wo.heap.size wo) (.cells #[.int .i64 z] 3)).mono (Nat.le_of_lt hg)).trans B4)
      clear HX x1 y1 B4
      generalize w3.setCell ⟨w1.heap.size, 1, none⟩ (.slice A2 (k + 1) c2') = W4 at *
      have hbp4 : bp < W4.heap.size := by omega
      replace e0 := (later_cell hbW hbp).trans e0
      replace e1 := (later_cell hbW hbp).trans e1
      replace e2 := (later_cell hbW hbp).trans e2
      replace e3 := (later_cell hbW hbp).trans e3
      replace e4 := (later_cell hbW hbp).trans e4
      replace e5 := (later_cell hbW hbp).trans e5
      replace e6 := (later_cell hbW hbp).trans e6
      have hS0 := And.intro d0 (And.intro e0 (And.intro e1 (And.intro e2 (And.intro e3 (And.intro e4 (And.intro e5 e6))))))
      have hne : w1.heap.size ≠ bp := by omega
      have HNE := Lib.hid hne
      have HDF := Lib.hid df
      have df2 := df 2
      clear hne df hf1 hf2 c0 c1 c2 ho
      rw [ldSum_is]
      go_region_held3 (fun w' => w'.cell? ⟨w1.heap.size, 0, none⟩ = some (.slice (some ⟨bp, op, none⟩) m cp) ∧ w'.cell? ⟨bp, op + k * 7, none⟩ = some (.int .i64 ed.x0) ∧ w'.cell? ⟨bp, op + k * 7 + 1, none⟩ = some (.int .i64 ed.y0) ∧ w'.cell? ⟨bp, op + k * 7 + 2, none⟩ = some (.bool ed.bent) ∧
          w'.cell? ⟨bp, op + k * 7 + 3, none⟩ = some (.int .i64 ed.cx) ∧ w'.cell? ⟨bp, op + k * 7 + 4, none⟩ = some (.int .i64 ed.cy) ∧ w'.cell? ⟨bp, op + k * 7 + 5, none⟩ = some (.int .i64 ed.x1) ∧ w'.cell? ⟨bp, op + k * 7 + 6, none⟩ = some (.int .i64 ed.y1))
        (first | with_reducible exact hsV | with_reducible exact keep8s HNE.out (by omega) hsV | go_keep)
        ((go_at_call 52; refine (ref_Long_any ed _ HSE.out).mono ?_; rintro e' V ⟨rfl, hbV'⟩; rw [← HLM.out]; have hbV : Below W4.heap.size W4 V := btr (by repeat (first | with_reducible exact Below.refl _ _ | with_reducible refine bal ?_ _ | with_reducible refine bdrew ?_)) hbV'; have hsV := keep8 (W := W4) hbV hg4 hbp4 hS0; have v2 := (later_cell hbV hg4).trans d2; have f2 := (later_frozen hbV hg4).trans df2; have vg := Nat.lt_of_lt_of_le hg4 hbV.size; clear hbV'))
      all_goals
        have hend := rway_end d0 d1 d2 HDF.out hg4 ho4 hbV (y := z + lm) HSK.out.symm
        have hbE := (hbW.trans (hbV.mono (Nat.le_of_lt hg4))).setCell (p := ⟨w1.heap.size, 2, none⟩) (Nat.le_refl _) (.int .i64 (z + lm))
        have HEND := Lib.hid hend
        have HBE := Lib.hid hbE
        clear hend hbE
        go_wp2
        go_roundw
        case rel => exact ⟨k + 1, by omega, by go_num, HBE.out, HEND.out⟩
        case measure => simp [intOf]; omega
    · obtain rfl : k = m := by omega
      have htk : ps.take k = ps := List.take_of_length_le (by rw [HM.out]; omega)
      rw [htk, HN.out] at c2
      have hbg : begTo ps k = begL ps := by unfold begL begTo; rw [HM.out]
      rw [hbg] at ho
      have hrs : ∀ j, wo.cell? ⟨w.heap.size + 1, j, none⟩ = (#[Value.slice none 0 0, Value.slice none 0 0, Value.int .i64 0] : Array Value)[j]? ∧ wo.frozen? ⟨w.heap.size + 1, j, none⟩ = false := fun j =>
        ⟨(later_cell hbo hz1).trans (HR0.out j).1, (later_frozen hbo hz1).trans (HR0.out j).2⟩
      have r0 : wo.cell? ⟨w.heap.size + 1, 0, none⟩ = some (.slice none 0 0) := (hrs 0).1
      have r1 : wo.cell? ⟨w.heap.size + 1, 1, none⟩ = some (.slice none 0 0) := (hrs 1).1
      have r2 : wo.cell? ⟨w.heap.size + 1, 2, none⟩ = some (.int .i64 0) := (hrs 2).1
      have s0 := (hrs 0).2
      have s1 := (hrs 1).2
      have s2 := (hrs 2).2
      have hbF := (((btr hB1 hbo).setCell (p := ⟨w.heap.size + 1, 0, none⟩) (by show w.heap.size ≤ w.heap.size + 1; omega) (.slice Ap k cp)).setCell (p := ⟨w.heap.size + 1, 1, none⟩) (by show w.heap.size ≤ w.heap.size + 1; omega) (.slice Aa k ca)).setCell (p := ⟨w.heap.size + 1, 2, none⟩) (by show w.heap.size ≤ w.heap.size + 1; omega) (.int .i64 N)
      have hgr := gtr (gtr (set_grown wo (w.heap.size + 1) 0 (.slice Ap k cp)) (set_grown _ (w.heap.size + 1) 1 (.slice Aa k ca))) (set_grown _ (w.heap.size + 1) 2 (.int .i64 N))
      have haF := own_sl (own_gg ho hgr (by omega))
      have HAF := Lib.hid haF
      have HBF := Lib.hid hbF
      have HOO : Hid (∀ q, Value.ownBlock (.slice Aa k ca) = some q → w1.heap.size + 1 ≤ q) := fun q hq => (ho.lt q hq).1
      obtain ⟨t0, t1, t2⟩ := three_set (v0 := .slice Ap k cp) (v1 := .slice Aa k ca) (v2 := .int .i64 N) r0 r1 r2
      have hpF : Sl (((wo.setCell ⟨w.heap.size + 1, 0, none⟩ (.slice Ap k cp)).setCell ⟨w.heap.size + 1, 1, none⟩ (.slice Aa k ca)).setCell ⟨w.heap.size + 1, 2, none⟩ (.int .i64 N)) 7 Ap k (eds ps) := by
        refine ⟨hp1o.1, fun h0 => ?_⟩
        obtain ⟨b, off, e, hb, hc⟩ := hp1o.2 h0
        have h2 := (HAB.out _ e).1
        simp at h2
        refine ⟨b, off, e, by simpa [World.setCell] using hb, fun j u hu => ?_⟩
        rw [World.cell?_setCell_far _ _ _ _ (by show w.heap.size + 1 ≠ b; omega), World.cell?_setCell_far _ _ _ _ (by show w.heap.size + 1 ≠ b; omega), World.cell?_setCell_far _ _ _ _ (by show w.heap.size + 1 ≠ b; omega)]
        exact hc j u hu
      have HPF := Lib.hid hpF
      clear htk hbg hrs hbF hgr haF hpF hf hf1 hf2
      go_wp2
      generalize ((wo.setCell ⟨w.heap.size + 1, 0, none⟩ (.slice Ap k cp)).setCell ⟨w.heap.size + 1, 1, none⟩ (.slice Aa k ca)).setCell ⟨w.heap.size + 1, 2, none⟩ (.int .i64 N) = wF at *
      exact bodyPost_ret (v := .agg #[.slice Ap k cp, .slice Aa k ca, .int .i64 N]) (by simp [results, Try.results34, go_sem, t0, t1, t2]) rfl
        ⟨Ap, Aa, cp, ca, rfl, ⟨HM.out, by omega, HOK.out, HPF.out, HAF.out⟩, HBF.out, fun a ha => by
          rcases ha with ha | ha
          · have := (HAB.out a ha).1; omega
          · subst ha; have := HOO.out a.block rfl; omega⟩

end Go.Proofs.Ytacolepcpbhceaa
