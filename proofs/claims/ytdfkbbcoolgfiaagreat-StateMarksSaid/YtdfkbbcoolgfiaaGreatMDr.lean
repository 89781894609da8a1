/- The reference's Pieces. -/
import Derived.Test.YtdfkbbcoolgfiaaGreatDashR1
import Derived.Test.YtdfkbbcoolgfiaaGreatMDd
import Derived.Test.YtdfkbbcoolgfiaaGreatMDp
import Derived.Test.YtdfkbbcoolgfiaaGreatRefCts
import Derived.Test.YtdfkbbcoolgfiaaGreatDash6
namespace Go.Proofs.YtdfkbbcoolgfiaaGreat
open Go.RowKit

/-- Is it a dot? -/
def isDot (c : Ct) : Bool := decide ((piecesC c).length = 0) && (c.shut || decide (0 < c.es.length))

set_option maxRecDepth 100000 in
set_option maxHeartbeats 4000000 in
theorem Pieces_any (ct : Ct) (A : Option Addr) (n c : Nat) (ps : List Ed) (m : Nat) (w : World) (hn : n ≤ 400) (h : Sl w 7 A n (eds ct.es)) (hgd : GoodC ct) (hps : piecesC ct = ps) (hm : ps.length = m) :
    Calls Tryz.prog 129 #[.agg #[.int .i64 ct.x, .int .i64 ct.y, .slice A n c, .bool ct.shut]] w
      fun e w' => ∃ (Ap : Option Addr) (cp : Nat), e = .returned (.tuple #[.slice Ap m cp, .bool (isDot ct)]) ∧ w'.ownsRow w.heap.size 112 7 (.slice Ap m cp) m (eds ps) ∧ Below w.heap.size w w' := by
  have hl := h.edlen
  have HGD := Lib.hid hgd
  have HL := Lib.hid hl
  have HPS := Lib.hid hps
  have HM := Lib.hid hm
  clear hgd hl hps hm
  go_enter Tryz.func129, Tryz.ntmps129
  go_wp2
  obtain ⟨W1, hW1⟩ : ∃ W1 : World, W1 = w.alloc (.cells #[.int .i64 ct.x, .int .i64 ct.y, .slice A n c, .bool ct.shut] 125) := ⟨_, rfl⟩
  have hB1 : Below w.heap.size w W1 := by rw [hW1]; exact bal (Below.refl _ _) _
  have hbx : ∀ j, W1.cell? ⟨w.heap.size, j, none⟩ = (#[Value.int .i64 ct.x, Value.int .i64 ct.y, Value.slice A n c, Value.bool ct.shut] : Array Value)[j]? := fun j => by rw [hW1]; exact new_cell _ j
  have hz1 : w.heap.size < W1.heap.size := by rw [hW1]; simp
  have b0 : W1.cell? ⟨w.heap.size, 0, none⟩ = some (.int .i64 ct.x) := hbx 0
  have b1 : W1.cell? ⟨w.heap.size, 1, none⟩ = some (.int .i64 ct.y) := hbx 1
  have b2 : W1.cell? ⟨w.heap.size, 2, none⟩ = some (.slice A n c) := hbx 2
  have b3 : W1.cell? ⟨w.heap.size, 3, none⟩ = some (.bool ct.shut) := hbx 3
  have hse := h.below hB1
  rw [← hW1]
  clear hbx hW1 h
  go_quiet (fail)
  go_wp2
  go_loopw [4, 5, 6, 7] (fun os xs ys i wr => ∃ (k mm : Nat) (x y : Int) (A5 : Option Addr) (c5 : Nat), k ≤ n ∧ mm ≤ k ∧ os = .slice A5 mm c5 ∧ xs = .int .i64 x ∧ ys = .int .i64 y ∧ i = .int .i64 (k : Int) ∧ Below W1.heap.size W1 wr ∧
    wr.ownsRow W1.heap.size 112 7 (.slice A5 mm c5) mm (eds ((ct.es.take k).filter moved)) ∧ Hid (x = endX ct.x (ct.es.take k) ∧ y = endY ct.y (ct.es.take k))) (fun _ _ _ i _ => n - (intOf i).toNat)
  case atStart => exact ⟨0, 0, ct.x, ct.y, none, 0, by omega, by omega, rfl, rfl, rfl, rfl, bdrewN (Below.refl _ _) _, own_nil, rfl, rfl⟩
  case round =>
    obtain ⟨k, mm, x, y, A5, c5, hk, hmk, rfl, rfl, rfl, rfl, hbr, hown, hxy⟩ := hrel
    have x0 := (later_cell hbr hz1).trans b0
    have x1 := (later_cell hbr hz1).trans b1
    have x2 := (later_cell hbr hz1).trans b2
    have x3 := (later_cell hbr hz1).trans b3
    have hsi := hbr.size
    have hz2 : w.heap.size < wr.heap.size := by omega
    by_cases hlt : k < n
    · have hkl : k < ct.es.length := by rw [HL.out]; exact hlt
      obtain ⟨b, off, rfl, hb, e0, e1, e2, e3, e4, e5, e6⟩ := hse.ed k hlt hkl
      obtain ⟨ch1, ch2⟩ := chain_at2 ct.es ct.x ct.y k hkl HGD.out.1
      rw [← hxy.out.1] at ch1
      rw [← hxy.out.2] at ch2
      have hxt := endX_take ct.x ct.es k hkl
      have hyt := endY_take ct.y ct.es k hkl
      have hfi := filter_take ct.es k hkl
      obtain ⟨ed, hed⟩ : ∃ ed, ed = ct.es[k] := ⟨_, rfl⟩
      rw [← hed] at e0 e1 e2 e3 e4 e5 e6 ch1 ch2 hxt hyt hfi
      replace e0 := (later_cell hbr hb).trans e0
      replace e1 := (later_cell hbr hb).trans e1
      replace e2 := (later_cell hbr hb).trans e2
      replace e3 := (later_cell hbr hb).trans e3
      replace e4 := (later_cell hbr hb).trans e4
      replace e5 := (later_cell hbr hb).trans e5
      replace e6 := (later_cell hbr hb).trans e6
      have HX := Lib.hid hxt
      have HY := Lib.hid hyt
      have HFI := Lib.hid hfi
      clear hed ch1 ch2 hxt hyt hfi
      have hnc := fun j => new_cell (w := wr) (t := 112) #[.int .i64 ed.x0, .int .i64 ed.y0, .bool ed.bent, .int .i64 ed.cx, .int .i64 ed.cy, .int .i64 ed.x1, .int .i64 ed.y1] j
      cases hmv : moved ed
      · have hst : ed.x0 = ed.x1 ∧ ed.y0 = ed.y1 := moved_no hmv
        have q1 : (ed.x0 == ed.x1) = true := by simp [hst.1]
        have q2 : (ed.y0 == ed.y1) = true := by simp [hst.2]
        have q3 : (ed.x0 != ed.x1) = false := by simp [hst.1]
        have q4 : (ed.y0 != ed.y1) = false := by simp [hst.2]
        have hfe : eds ((ct.es.take (k + 1)).filter moved) = eds ((ct.es.take k).filter moved) := by rw [HFI.out]; simp [hmv]
        have HFE := Lib.hid hfe
        clear hmv hst hfe hnc
        go_wp2
        go_quiet (fail)
        go_wp2
        go_roundw
        case rel => exact ⟨k + 1, mm, ed.x1, ed.y1, A5, c5, by omega, by omega, rfl, rfl, rfl, by go_num, bdrewN (bal hbr _) _, by rw [HFE.out]; exact own_below hown (bdrewN (bal (Below.refl _ _) _) _), HX.out.symm, HY.out.symm⟩
        case measure => simp [intOf]; omega
      · have hst : (ed.x0 != ed.x1) = true ∨ ((ed.x0 != ed.x1) = false ∧ (ed.y0 != ed.y1) = true) := by
          by_cases hx1 : ed.x0 = ed.x1
          · right
            refine ⟨by simp [hx1], ?_⟩
            simp only [moved, Bool.or_eq_true, Bool.not_eq_true', beq_eq_false_iff_ne, ne_eq] at hmv
            simp; omega
          · left; simpa using hx1
        have hfe : eds ((ct.es.take (k + 1)).filter moved) = eds ((ct.es.take k).filter moved) ++ edc ed := by rw [HFI.out, ← eds_one, ← eds_app]; simp [hmv]
        have HFE := Lib.hid hfe
        clear hmv hfe hnc
        rcases hst with q1 | ⟨q1, q2⟩
        · go_wp2
          go_quiet (fail)
          go_wp2_with (at_builtin; refine wpList_app rfl _ _ 109 rfl W1.heap.size edT2 rfl (own_below hown (by repeat (first | exact Below.refl _ _ | refine bal ?_ _ | refine bdrew ?_ | refine bdrewN ?_ _))) (edc ed) rfl (sl_newN _ (by simp) rfl) (oneCell_edc _) (by omega) (by have := hbr.size; simp; omega) ?_; intro A8 c8 w8 hown8 hg8 hat8)
          go_roundw
          case rel => exact ⟨k + 1, mm + 1, ed.x1, ed.y1, A8, c8, by omega, by omega, rfl, rfl, rfl, by go_num, grown_below (btr hbr (by repeat (first | exact Below.refl _ _ | refine bal ?_ _ | refine bdrew ?_ | refine bdrewN ?_ _))) hg8 (own_below hown (by repeat (first | exact Below.refl _ _ | refine bal ?_ _ | refine bdrew ?_ | refine bdrewN ?_ _))), by rw [HFE.out]; exact hown8, HX.out.symm, HY.out.symm⟩
          case measure => simp [intOf]; omega
        · go_wp2
          go_quiet (fail)
          go_wp2_with (at_builtin; refine wpList_app rfl _ _ 109 rfl W1.heap.size edT2 rfl (own_below hown (by repeat (first | exact Below.refl _ _ | refine bal ?_ _ | refine bdrew ?_ | refine bdrewN ?_ _))) (edc ed) rfl (sl_newN _ (by simp) rfl) (oneCell_edc _) (by omega) (by have := hbr.size; simp; omega) ?_; intro A8 c8 w8 hown8 hg8 hat8)
          go_roundw
          case rel => exact ⟨k + 1, mm + 1, ed.x1, ed.y1, A8, c8, by omega, by omega, rfl, rfl, rfl, by go_num, grown_below (btr hbr (by repeat (first | exact Below.refl _ _ | refine bal ?_ _ | refine bdrew ?_ | refine bdrewN ?_ _))) hg8 (own_below hown (by repeat (first | exact Below.refl _ _ | refine bal ?_ _ | refine bdrew ?_ | refine bdrewN ?_ _))), by rw [HFE.out]; exact hown8, HX.out.symm, HY.out.symm⟩
          case measure => simp [intOf]; omega
    · obtain rfl : k = n := by omega
      have htk : ct.es.take k = ct.es := List.take_of_length_le (by rw [HL.out]; omega)
      rw [htk] at hown
      have hxy2 : x = endX ct.x ct.es ∧ y = endY ct.y ct.es := by have := hxy.out; rwa [htk] at this
      have hml : (ct.es.filter moved).length = mm := (own_sl hown).edlen
      have hbe : backE ct = ⟨x, y, false, 0, 0, ct.x, ct.y⟩ := by unfold backE; rw [hxy2.1, hxy2.2]
      have HML := Lib.hid hml
      have HBE := Lib.hid hbe
      clear htk hxy hxy2 hml hbe
      cases hsm : (ct.shut && moved (backE ct))
      · have hpc : ps = ct.es.filter moved := by rw [← HPS.out]; unfold piecesC; rw [hsm]; simp
        have hcase : ct.shut = false ∨ (ct.shut = true ∧ (x != ct.x) = false ∧ (y != ct.y) = false) := by
          cases hsh : ct.shut
          · exact .inl rfl
          · right
            rw [hsh, HBE.out, Bool.true_and] at hsm
            simp only [moved, Bool.or_eq_false_iff, Bool.not_eq_false', beq_iff_eq] at hsm
            exact ⟨rfl, by simp [hsm.1], by simp [hsm.2]⟩
        obtain rfl : mm = m := by rw [← HM.out, hpc]; exact HML.out.symm
        rw [← hpc] at hown
        have hdot : isDot ct = (decide (mm = 0) && (ct.shut || decide (0 < k))) := by unfold isDot; rw [HPS.out, HM.out, HL.out]
        have HD := Lib.hid hdot
        clear hsm hpc hdot
        by_cases h0 : mm = 0
        · subst h0
          rcases hcase with hsh | ⟨hsh, q1, q2⟩
          · by_cases hk0 : 0 < k
            · have hd1 : decide (0 < k) = true := by simp [hk0]
              have hd2 : decide (0 < (k : Int)) = true := by simp [hk0]
              have hdd : isDot ct = true := by rw [HD.out, hsh, hd1]; rfl
              have HDD := Lib.hid hdd
              clear hdd
              go_wp2
              go_quiet (fail)
              go_wp2
              go_ret2
              exact ⟨A5, c5, by rw [HDD.out]; rfl, own_mono (own_below hown (bdrewN (Below.refl _ _) _)) hB1.size, bdrewN (btr hB1 hbr) _⟩
            · have hd1 : decide (0 < k) = false := by simp; omega
              have hd2 : decide (0 < (k : Int)) = false := by simp; omega
              have hdd : isDot ct = false := by rw [HD.out, hsh, hd1]; rfl
              have HDD := Lib.hid hdd
              clear hdd
              go_wp2
              go_quiet (fail)
              go_wp2
              go_ret2
              exact ⟨A5, c5, by rw [HDD.out]; rfl, own_mono (own_below hown (bdrewN (Below.refl _ _) _)) hB1.size, bdrewN (btr hB1 hbr) _⟩
          · have hdd : isDot ct = true := by rw [HD.out, hsh]; rfl
            have HDD := Lib.hid hdd
            clear hdd
            go_wp2
            go_quiet (fail)
            go_wp2
            go_ret2
            exact ⟨A5, c5, by rw [HDD.out]; rfl, own_mono (own_below hown (bdrewN (Below.refl _ _) _)) hB1.size, bdrewN (btr hB1 hbr) _⟩
        · have hm0 : ((mm : Int) == 0) = false := by simp; omega
          have hm1 : (mm == 0) = false := by simp; omega
          have hdd : isDot ct = false := by rw [HD.out]; simp [h0]
          clear h0
          rcases hcase with hsh | ⟨hsh, q1, q2⟩
          · have HDD := Lib.hid hdd
            clear hdd
            go_wp2
            go_quiet (fail)
            go_wp2
            go_ret2
            exact ⟨A5, c5, by rw [HDD.out]; rfl, own_mono (own_below hown (bdrewN (Below.refl _ _) _)) hB1.size, bdrewN (btr hB1 hbr) _⟩
          · have HDD := Lib.hid hdd
            clear hdd
            go_wp2
            go_quiet (fail)
            go_wp2
            go_ret2
            exact ⟨A5, c5, by rw [HDD.out]; rfl, own_mono (own_below hown (bdrewN (Below.refl _ _) _)) hB1.size, bdrewN (btr hB1 hbr) _⟩
      · have hpc : ps = ct.es.filter moved ++ [backE ct] := by rw [← HPS.out]; unfold piecesC; rw [hsm]; simp
        have hsh : ct.shut = true := by cases hh : ct.shut <;> simp_all
        have hcase : (x != ct.x) = true ∨ ((x != ct.x) = false ∧ (y != ct.y) = true) := by
          rw [hsh, HBE.out, Bool.true_and] at hsm
          simp only [moved, Bool.or_eq_true, Bool.not_eq_true', beq_eq_false_iff_ne, ne_eq] at hsm
          by_cases hx1 : x = ct.x
          · right; exact ⟨by simp [hx1], by simp; omega⟩
          · left; simpa using hx1
        obtain rfl : mm + 1 = m := by rw [← HM.out, hpc, List.length_append, HML.out]; rfl
        have hdd : isDot ct = false := by unfold isDot; rw [HPS.out, HM.out]; simp
        have hpe : eds ps = eds (ct.es.filter moved) ++ edc ⟨x, y, false, 0, 0, ct.x, ct.y⟩ := by rw [hpc, HBE.out, eds_app, eds_one]
        have HPE := Lib.hid hpe
        have HDD := Lib.hid hdd
        have hm0 : (((mm + 1 : Nat) : Int) == 0) = false := by simp; omega
        have hm1 : (mm + 1 == 0) = false := by simp
        have hm2 : ((mm : Int) + 1 == 0) = false := by simp; omega
        clear hsm hpc hdd hpe
        rcases hcase with q1 | ⟨q1, q2⟩
        · go_wp2_with (at_builtin; refine wpList_app rfl _ _ 109 rfl W1.heap.size edT2 rfl (own_below hown (bal (Below.refl _ _) _)) (edc ⟨x, y, false, 0, 0, ct.x, ct.y⟩) rfl (sl_newN _ (by simp) rfl) (oneCell_edc _) (by omega) (by have := hbr.size; simp; omega) ?_; intro A8 c8 w8 hown8 hg8 hat8)
          have hb8 := grown_below (bal hbr _) hg8 (own_below hown (bal (Below.refl _ _) _))
          go_quiet (fail)
          go_wp2
          go_ret2
          exact ⟨A8, c8, by rw [HDD.out]; rfl, own_mono (own_below (by rw [HPE.out]; exact hown8) (bdrewN (Below.refl _ _) _)) hB1.size, bdrewN (btr hB1 hb8) _⟩
        · go_wp2_with (at_builtin; refine wpList_app rfl _ _ 109 rfl W1.heap.size edT2 rfl (own_below hown (bal (Below.refl _ _) _)) (edc ⟨x, y, false, 0, 0, ct.x, ct.y⟩) rfl (sl_newN _ (by simp) rfl) (oneCell_edc _) (by omega) (by have := hbr.size; simp; omega) ?_; intro A8 c8 w8 hown8 hg8 hat8)
          have hb8 := grown_below (bal hbr _) hg8 (own_below hown (bal (Below.refl _ _) _))
          go_quiet (fail)
          go_wp2
          go_ret2
          exact ⟨A8, c8, by rw [HDD.out]; rfl, own_mono (own_below (by rw [HPE.out]; exact hown8) (bdrewN (Below.refl _ _) _)) hB1.size, bdrewN (btr hB1 hb8) _⟩

end Go.Proofs.YtdfkbbcoolgfiaaGreat

namespace Go.Proofs.YtdfkbbcoolgfiaaGreat
open Go.RowKit

/-- Where each piece begins. -/
def begL (l : List Ed) : List Int := (List.range l.length).map fun i => sumL (l.take i)
def begTo (l : List Ed) (k : Nat) : List Int := (List.range k).map fun i => sumL (l.take i)
theorem begTo_succ (l : List Ed) (k : Nat) : begTo l (k + 1) = begTo l k ++ [sumL (l.take k)] := by simp [begTo, List.range_succ]
theorem begL_len (l : List Ed) : (begL l).length = l.length := by simp [begL]
/-- The reference's way in memory. -/
structure RWayIn (w : World) (Ap Aa : Option Addr) (n : Nat) (ps : List Ed) : Prop where
  len : ps.length = n
  few : n ≤ 1000
  all : ∀ e ∈ ps, Strt e ∧ moved e = true
  p : Sl w 7 Ap n (eds ps)
  a : Sl w 1 Aa n (ints (begL ps))
theorem RWayIn.below {w w' : World} {Ap Aa : Option Addr} {n : Nat} {ps : List Ed} (h : RWayIn w Ap Aa n ps) (hb : Below w.heap.size w w') : RWayIn w' Ap Aa n ps := ⟨h.len, h.few, h.all, h.p.below hb, h.a.below hb⟩
theorem keep8s {w : World} {g b o j : Nat} {x u v0 v1 v2 v3 v4 v5 v6 : Value} (hgb : g ≠ b) (hj : j ≠ 0)
    (h : w.cell? ⟨g, 0, none⟩ = some u ∧ w.cell? ⟨b, o, none⟩ = some v0 ∧ w.cell? ⟨b, o + 1, none⟩ = some v1 ∧ w.cell? ⟨b, o + 2, none⟩ = some v2 ∧ w.cell? ⟨b, o + 3, none⟩ = some v3 ∧ w.cell? ⟨b, o + 4, none⟩ = some v4 ∧ w.cell? ⟨b, o + 5, none⟩ = some v5 ∧ w.cell? ⟨b, o + 6, none⟩ = some v6) :
    (w.setCell ⟨g, j, none⟩ x).cell? ⟨g, 0, none⟩ = some u ∧ (w.setCell ⟨g, j, none⟩ x).cell? ⟨b, o, none⟩ = some v0 ∧ (w.setCell ⟨g, j, none⟩ x).cell? ⟨b, o + 1, none⟩ = some v1 ∧ (w.setCell ⟨g, j, none⟩ x).cell? ⟨b, o + 2, none⟩ = some v2 ∧
      (w.setCell ⟨g, j, none⟩ x).cell? ⟨b, o + 3, none⟩ = some v3 ∧ (w.setCell ⟨g, j, none⟩ x).cell? ⟨b, o + 4, none⟩ = some v4 ∧ (w.setCell ⟨g, j, none⟩ x).cell? ⟨b, o + 5, none⟩ = some v5 ∧ (w.setCell ⟨g, j, none⟩ x).cell? ⟨b, o + 6, none⟩ = some v6 := by
  have hs : ∀ i, (w.setCell ⟨g, j, none⟩ x).cell? ⟨b, i, none⟩ = w.cell? ⟨b, i, none⟩ := fun i => World.cell?_setCell_far _ _ _ _ hgb
  have h0 : (w.setCell ⟨g, j, none⟩ x).cell? ⟨g, 0, none⟩ = w.cell? ⟨g, 0, none⟩ := World.cell?_setCell_other _ _ _ _ (by intro e; injection e with _ e; exact hj e)
  simp only [hs, h0]
  exact h
/-- The state of way's loop. -/
def RWSt (w : World) (g k m cp : Nat) (Ap : Option Addr) (ps : List Ed) : Prop :=
  ∃ (Aa : Option Addr) (ca : Nat), w.cell? ⟨g, 0, none⟩ = some (.slice Ap m cp) ∧ w.cell? ⟨g, 1, none⟩ = some (.slice Aa k ca) ∧ w.cell? ⟨g, 2, none⟩ = some (.int .i64 (sumL (ps.take k))) ∧ (∀ j, w.frozen? ⟨g, j, none⟩ = false) ∧ g < w.heap.size ∧
    w.ownsRow (g + 1) 3 1 (.slice Aa k ca) k (ints (begTo ps k))
theorem RWSt.below {w w' : World} {g k m cp : Nat} {Ap : Option Addr} {ps : List Ed} (h : RWSt w g k m cp Ap ps) (hb : Below w.heap.size w w') : RWSt w' g k m cp Ap ps := by
  obtain ⟨Aa, ca, c0, c1, c2, f, hg, ho⟩ := h
  exact ⟨Aa, ca, (later_cell hb hg).trans c0, (later_cell hb hg).trans c1, (later_cell hb hg).trans c2, fun j => (later_frozen hb hg).trans (f j), Nat.lt_of_lt_of_le hg hb.size, own_below ho hb⟩
/-- After the first store: the place where the piece begins is told. -/
theorem rway_mid {w w3 : World} {g k m cp ca c2 : Nat} {Ap Aa A2 : Option Addr} {ps : List Ed} {z : Int} (c0 : w.cell? ⟨g, 0, none⟩ = some (.slice Ap m cp)) (c1 : w.cell? ⟨g, 1, none⟩ = some (.slice Aa k ca)) (cN : w.cell? ⟨g, 2, none⟩ = some (.int .i64 z)) (hf : ∀ j, w.frozen? ⟨g, j, none⟩ = false) (hg : g < w.heap.size)
    (ho : w.ownsRow (g + 1) 3 1 (.slice Aa k ca) k (ints (begTo ps k))) (hz : z = sumL (ps.take k))
    (ho3 : w3.ownsRow (g + 1) 3 1 (.slice A2 (k + 1) c2) (k + 1) (ints (begTo ps k) ++ ints [z])) (hg3 : w.grownBy w3 (Value.ownBlock (.slice Aa k ca))) :
    (w3.cell? ⟨g, 1, none⟩ = some (.slice Aa k ca) ∧ w3.frozen? ⟨g, 1, none⟩ = false) ∧
    ((w3.setCell ⟨g, 1, none⟩ (.slice A2 (k + 1) c2)).cell? ⟨g, 0, none⟩ = some (.slice Ap m cp) ∧ (w3.setCell ⟨g, 1, none⟩ (.slice A2 (k + 1) c2)).cell? ⟨g, 1, none⟩ = some (.slice A2 (k + 1) c2) ∧ (w3.setCell ⟨g, 1, none⟩ (.slice A2 (k + 1) c2)).cell? ⟨g, 2, none⟩ = some (.int .i64 z) ∧
      (∀ j, (w3.setCell ⟨g, 1, none⟩ (.slice A2 (k + 1) c2)).frozen? ⟨g, j, none⟩ = false) ∧ g < (w3.setCell ⟨g, 1, none⟩ (.slice A2 (k + 1) c2)).heap.size) ∧
    (w3.setCell ⟨g, 1, none⟩ (.slice A2 (k + 1) c2)).ownsRow (g + 1) 3 1 (.slice A2 (k + 1) c2) (k + 1) (ints (begTo ps (k + 1))) ∧ Below g w (w3.setCell ⟨g, 1, none⟩ (.slice A2 (k + 1) c2)) := by
  have hr : ∀ q, Value.ownBlock (.slice Aa k ca) = some q → g < q := fun q hq => (ho.lt q hq).1
  have hbk : w3.heap[g]? = w.heap[g]? := hg3.block g hg (fun e => by have := hr g e.symm; omega)
  have x0 := (World.cell?_of_block (a := ⟨g, 0, none⟩) hbk).trans c0
  have x1 := (World.cell?_of_block (a := ⟨g, 1, none⟩) hbk).trans c1
  have x2 := (World.cell?_of_block (a := ⟨g, 2, none⟩) hbk).trans cN
  have y : ∀ j, w3.frozen? ⟨g, j, none⟩ = false := fun j => (World.frozen?_of_block (a := ⟨g, j, none⟩) hbk).trans (hf j)
  have hgl : g < w3.heap.size := Nat.lt_of_lt_of_le hg hg3.size
  refine ⟨⟨x1, y 1⟩, ⟨?_, World.cell?_setCell_same _ _ _ x1, ?_, fun j => by rw [World.frozen?_setCell]; exact y j, by simpa [World.setCell] using hgl⟩, ?_, ?_⟩
  · rw [World.cell?_setCell_other _ _ _ _ (by simp)]; exact x0
  · rw [World.cell?_setCell_other _ _ _ _ (by simp)]; exact x2
  · rw [begTo_succ, ints_app, ← hz]; exact own_gg ho3 (set_grown _ _ _ _) (by omega)
  · exact (Below.grown (Below.refl g w) hg3 (by omega) (fun q hq => Nat.le_of_lt (hr q hq))).setCell (Nat.le_refl _) _

theorem rway_end {w V : World} {g k m cp c2 : Nat} {Ap A2 : Option Addr} {ps : List Ed} {z y : Int} (d0 : w.cell? ⟨g, 0, none⟩ = some (.slice Ap m cp)) (d1 : w.cell? ⟨g, 1, none⟩ = some (.slice A2 (k + 1) c2)) (d2 : w.cell? ⟨g, 2, none⟩ = some (.int .i64 z)) (df : ∀ j, w.frozen? ⟨g, j, none⟩ = false) (hg : g < w.heap.size)
    (ho : w.ownsRow (g + 1) 3 1 (.slice A2 (k + 1) c2) (k + 1) (ints (begTo ps (k + 1)))) (hb : Below w.heap.size w V) (hy : y = sumL (ps.take (k + 1))) :
    RWSt (V.setCell ⟨g, 2, none⟩ (.int .i64 y)) g (k + 1) m cp Ap ps := by
  refine ⟨A2, c2, ?_, ?_, ?_, fun j => by rw [World.frozen?_setCell]; exact (later_frozen hb hg).trans (df j), by simpa [World.setCell] using Nat.lt_of_lt_of_le hg hb.size, own_gg (own_below ho hb) (set_grown _ _ _ _) (by omega)⟩
  · rw [World.cell?_setCell_other _ _ _ _ (by simp)]; exact (later_cell hb hg).trans d0
  · rw [World.cell?_setCell_other _ _ _ _ (by simp)]; exact (later_cell hb hg).trans d1
  · rw [← hy]; exact World.cell?_setCell_same _ _ _ ((later_cell hb hg).trans d2)
theorem three_set {w : World} {g : Nat} {u0 u1 u2 v0 v1 v2 : Value} (r0 : w.cell? ⟨g, 0, none⟩ = some u0) (r1 : w.cell? ⟨g, 1, none⟩ = some u1) (r2 : w.cell? ⟨g, 2, none⟩ = some u2) :
    (((w.setCell ⟨g, 0, none⟩ v0).setCell ⟨g, 1, none⟩ v1).setCell ⟨g, 2, none⟩ v2).cell? ⟨g, 0, none⟩ = some v0 ∧ (((w.setCell ⟨g, 0, none⟩ v0).setCell ⟨g, 1, none⟩ v1).setCell ⟨g, 2, none⟩ v2).cell? ⟨g, 1, none⟩ = some v1 ∧ (((w.setCell ⟨g, 0, none⟩ v0).setCell ⟨g, 1, none⟩ v1).setCell ⟨g, 2, none⟩ v2).cell? ⟨g, 2, none⟩ = some v2 := by
  obtain ⟨a0, a1⟩ := two_set (v0 := v0) (v1 := v1) r0 r1
  have a2 : ((w.setCell ⟨g, 0, none⟩ v0).setCell ⟨g, 1, none⟩ v1).cell? ⟨g, 2, none⟩ = some u2 := by
    rw [World.cell?_setCell_other _ _ _ _ (by simp), World.cell?_setCell_other _ _ _ _ (by simp)]; exact r2
  refine ⟨?_, ?_, World.cell?_setCell_same _ _ _ a2⟩
  · rw [World.cell?_setCell_other _ _ _ _ (by simp)]; exact a0
  · rw [World.cell?_setCell_other _ _ _ _ (by simp)]; exact a1

/-- The load of the sum, named: it is branched over, not taken first. -/
def ldSum : Oper := ⟨some 28, .load 3 (.tmp 27), 3, "ref.go:182", #[⟨0, .data⟩], none⟩
theorem ldSum_is : (⟨some 28, .load 3 (.tmp 27), 3, "ref.go:182", #[⟨0, .data⟩], none⟩ : Oper) = ldSum := rfl
attribute [local go_sem] ldSum

set_option maxRecDepth 100000 in
set_option maxHeartbeats 4000000 in
theorem rway_any (ct : Ct) (A : Option Addr) (n c : Nat) (ps : List Ed) (m : Nat) (N : Int) (w : World) (hn : n ≤ 400) (h : Sl w 7 A n (eds ct.es)) (hgd : GoodC ct) (hbt : ∀ e ∈ ct.es, e.bent = false) (hps : piecesC ct = ps) (hm : ps.length = m) (hN : sumL ps = N) :
    Calls Tryz.prog 80 #[.agg #[.int .i64 ct.x, .int .i64 ct.y, .slice A n c, .bool ct.shut]] w
      fun e w' => ∃ (Ap Aa : Option Addr) (cp ca : Nat), e = .returned (.agg #[.slice Ap m cp, .slice Aa m ca, .int .i64 N]) ∧ RWayIn w' Ap Aa m ps ∧ Below w.heap.size w w' ∧ ∀ a, Ap = some a ∨ Aa = some a → w.heap.size ≤ a.block := by
  have hok : ∀ e ∈ ps, Strt e ∧ moved e = true := by rw [← hps]; exact piecesC_ok hgd hbt
  have hm4 : m ≤ 401 := by rw [← hm, ← hps]; have := piecesC_len ct; have := h.edlen; omega
  have HOK := Lib.hid hok
  have HGD := Lib.hid hgd
  have HPS := Lib.hid hps
  have HM := Lib.hid hm
  have HN := Lib.hid hN
  clear hok hgd hps hm hN hbt
  go_enter Tryz.func80, Tryz.ntmps80
  go_wp2_with fail
  refine (Pieces_any ct A n c ps m _ hn (h.below (bal (bal (Below.refl _ _) _) _)) HGD.out HPS.out HM.out).mono ?_; rintro e w1 ⟨Ap, cp, rfl, hown1, hb1⟩
  have hB1 := btr (bal (bal (Below.refl w.heap.size w) (.cells #[.int .i64 ct.x, .int .i64 ct.y, .slice A n c, .bool ct.shut] 125)) (.cells #[.slice none 0 0, .slice none 0 0, .int .i64 0] 122)) hb1
  have hab : ∀ a, Ap = some a → w.heap.size + 2 ≤ a.block ∧ a.block < w1.heap.size := fun a e => by
    subst e
    have := hown1.lt a.block rfl
    simp at this; omega
  have hp1 := own_sl hown1
  have hr0 : ∀ j, w1.cell? ⟨w.heap.size + 1, j, none⟩ = (#[Value.slice none 0 0, Value.slice none 0 0, Value.int .i64 0] : Array Value)[j]? ∧ w1.frozen? ⟨w.heap.size + 1, j, none⟩ = false := fun j => by
    have e : w.heap.size + 1 = (w.alloc (.cells #[.int .i64 ct.x, .int .i64 ct.y, .slice A n c, .bool ct.shut] 125)).heap.size := by simp
    rw [e]
    exact ⟨(later_cell hb1 (by simp)).trans (new_cell _ j), (later_frozen hb1 (by simp)).trans (frozen_of_row _ _ _ _ _ (heap_alloc_new _ _))⟩
  have hz1 : w.heap.size + 1 < w1.heap.size := Nat.lt_of_lt_of_le (by simp) hb1.size
  have HAB := Lib.hid hab
  have HR0 := Lib.hid hr0
  clear hown1 hb1 hab hr0 h
  go_wp2
  have hst : RWSt (w1.alloc (.cells #[.slice Ap m cp, .slice none 0 0, .int .i64 0] 122)) w1.heap.size 0 m cp Ap ps :=
    ⟨none, 0, new_cell _ 0, new_cell _ 1, new_cell _ 2, fun j => frozen_of_row _ _ _ _ _ (heap_alloc_new _ _), by simp, own_nil⟩
  go_loopw [6] (fun i wr => ∃ k : Nat, k ≤ m ∧ i = .int .i64 (k : Int) ∧ Below w1.heap.size w1 wr ∧ RWSt wr w1.heap.size k m cp Ap ps) (fun i _ => m - (intOf i).toNat)
  case atStart => exact ⟨0, by omega, rfl, bal (Below.refl _ _) _, hst⟩
  case round =>
    obtain ⟨wo, rfl⟩ : ∃ wo : World, wo = wr := ⟨_, rfl⟩
    obtain ⟨k, hk, rfl, hbo, Aa, ca, c0, c1, c2, hf, hg, ho⟩ := hrel
    have hf1 := hf 1
    have hf2 := hf 2
    have hp1o := hp1.below hbo
    clear hst
    by_cases hlt : k < m
    · have hkl : k < ps.length := by rw [HM.out]; exact hlt
      obtain ⟨bp, op, rfl, hbp, e0, e1, e2, e3, e4, e5, e6⟩ := hp1.ed k hlt hkl
      have hse := (HOK.out _ (List.getElem_mem hkl)).1
      have hsk := sumL_take ps k hkl
      have hsb := sumL_bd (l := ps) (fun e he => (HOK.out e he).1.2)
      have hsl1 := sumL_take_le ps k
      have hsl0 := sumL_nonneg (ps.take k)
      rw [HM.out] at hsb
      obtain ⟨ed, hed⟩ : ∃ ed, ed = ps[k] := ⟨_, rfl⟩
      obtain ⟨z, hz⟩ : ∃ z, z = sumL (ps.take k) := ⟨_, rfl⟩
      rw [← hed] at e0 e1 e2 e3 e4 e5 e6 hse hsk
      rw [← hz] at c2 hsk hsl0 hsl1
      have hlb := lenE_bd hse.2
      obtain ⟨lm, hlm⟩ : ∃ lm, lm = lenE ed := ⟨_, rfl⟩
      rw [← hlm] at hsk hlb
      have hz9 : 0 ≤ z ∧ z ≤ 10000000 := by omega
      have HSE := Lib.hid hse
      have HSK := Lib.hid hsk
      have HZ := Lib.hid hz
      have HLM := Lib.hid hlm
      have HF := Lib.hid hf
      clear hed hse hsk hz hlm hf hsb hsl1 hsl0
      go_wp2_with (at_builtin; refine wpList_app rfl _ _ 28 rfl (w1.heap.size + 1) inT2 rfl (own_below ho (bal (Below.refl _ _) _)) (ints [z]) rfl (sl_newN _ (by simp) rfl) (oneCell_ints _) (by omega) (by simp; omega) ?_; intro A2 c2' w3 hown3 hg3 hat3; obtain ⟨⟨x1, y1⟩, hx⟩ := rway_mid (g := w1.heap.size) ((later_cell (bal (Below.refl _ _) _) hg).trans c0) ((later_cell (bal (Below.refl _ _) _) hg).trans c1) ((later_cell (bal (Below.refl _ _) _) hg).trans c2) (fun j => (later_frozen (bal (Below.refl _ _) _) hg).trans (HF.out j)) (by simp; omega) (own_below ho (bal (Below.refl _ _) _)) HZ.out hown3 hg3; have HX := Lib.hid hx; clear hx hown3 hg3 hat3)
      obtain ⟨⟨d0, d1, d2, df, hg4⟩, ho4, B4⟩ := HX.out
      have hbW := hbo.trans (((bal (Below.refl wo.heap.size wo) (.cells #[.int .i64 z] 3)).mono (Nat.le_of_lt hg)).trans B4)
      clear HX x1 y1 B4
      generalize w3.setCell ⟨w1.heap.size, 1, none⟩ (.slice A2 (k + 1) c2') = W4 at *
      have hbp4 : bp < W4.heap.size := by omega
      replace e0 := (later_cell hbW hbp).trans e0
      replace e1 := (later_cell hbW hbp).trans e1
      replace e2 := (later_cell hbW hbp).trans e2
      replace e3 := (later_cell hbW hbp).trans e3
      replace e4 := (later_cell hbW hbp).trans e4
      replace e5 := (later_cell hbW hbp).trans e5
      replace e6 := (later_cell hbW hbp).trans e6
      have hS0 := And.intro d0 (And.intro e0 (And.intro e1 (And.intro e2 (And.intro e3 (And.intro e4 (And.intro e5 e6))))))
      have hne : w1.heap.size ≠ bp := by omega
      have HNE := Lib.hid hne
      have HDF := Lib.hid df
      have df2 := df 2
      clear hne df hf1 hf2 c0 c1 c2 ho
      rw [ldSum_is]
      go_region_held3 (fun w' => w'.cell? ⟨w1.heap.size, 0, none⟩ = some (.slice (some ⟨bp, op, none⟩) m cp) ∧ w'.cell? ⟨bp, op + k * 7, none⟩ = some (.int .i64 ed.x0) ∧ w'.cell? ⟨bp, op + k * 7 + 1, none⟩ = some (.int .i64 ed.y0) ∧ w'.cell? ⟨bp, op + k * 7 + 2, none⟩ = some (.bool ed.bent) ∧
          w'.cell? ⟨bp, op + k * 7 + 3, none⟩ = some (.int .i64 ed.cx) ∧ w'.cell? ⟨bp, op + k * 7 + 4, none⟩ = some (.int .i64 ed.cy) ∧ w'.cell? ⟨bp, op + k * 7 + 5, none⟩ = some (.int .i64 ed.x1) ∧ w'.cell? ⟨bp, op + k * 7 + 6, none⟩ = some (.int .i64 ed.y1))
        (first | with_reducible exact hsV | with_reducible exact keep8s HNE.out (by omega) hsV | go_keep)
        ((go_at_call 130; refine (ref_Long_any ed _ HSE.out).mono ?_; rintro e' V ⟨rfl, hbV'⟩; rw [← HLM.out]; have hbV : Below W4.heap.size W4 V := btr (by repeat (first | with_reducible exact Below.refl _ _ | with_reducible refine bal ?_ _ | with_reducible refine bdrew ?_)) hbV'; have hsV := keep8 (W := W4) hbV hg4 hbp4 hS0; have v2 := (later_cell hbV hg4).trans d2; have f2 := (later_frozen hbV hg4).trans df2; have vg := Nat.lt_of_lt_of_le hg4 hbV.size; clear hbV'))
      all_goals
        have hend := rway_end d0 d1 d2 HDF.out hg4 ho4 hbV (y := z + lm) HSK.out.symm
        have hbE := (hbW.trans (hbV.mono (Nat.le_of_lt hg4))).setCell (p := ⟨w1.heap.size, 2, none⟩) (Nat.le_refl _) (.int .i64 (z + lm))
        have HEND := Lib.hid hend
        have HBE := Lib.hid hbE
        clear hend hbE
        go_wp2
        go_roundw
        case rel => exact ⟨k + 1, by omega, by go_num, HBE.out, HEND.out⟩
        case measure => simp [intOf]; omega
    · obtain rfl : k = m := by omega
      have htk : ps.take k = ps := List.take_of_length_le (by rw [HM.out]; omega)
      rw [htk, HN.out] at c2
      have hbg : begTo ps k = begL ps := by unfold begL begTo; rw [HM.out]
      rw [hbg] at ho
      have hrs : ∀ j, wo.cell? ⟨w.heap.size + 1, j, none⟩ = (#[Value.slice none 0 0, Value.slice none 0 0, Value.int .i64 0] : Array Value)[j]? ∧ wo.frozen? ⟨w.heap.size + 1, j, none⟩ = false := fun j =>
        ⟨(later_cell hbo hz1).trans (HR0.out j).1, (later_frozen hbo hz1).trans (HR0.out j).2⟩
      have r0 : wo.cell? ⟨w.heap.size + 1, 0, none⟩ = some (.slice none 0 0) := (hrs 0).1
      have r1 : wo.cell? ⟨w.heap.size + 1, 1, none⟩ = some (.slice none 0 0) := (hrs 1).1
      have r2 : wo.cell? ⟨w.heap.size + 1, 2, none⟩ = some (.int .i64 0) := (hrs 2).1
      have s0 := (hrs 0).2
      have s1 := (hrs 1).2
      have s2 := (hrs 2).2
      have hbF := (((btr hB1 hbo).setCell (p := ⟨w.heap.size + 1, 0, none⟩) (by show w.heap.size ≤ w.heap.size + 1; omega) (.slice Ap k cp)).setCell (p := ⟨w.heap.size + 1, 1, none⟩) (by show w.heap.size ≤ w.heap.size + 1; omega) (.slice Aa k ca)).setCell (p := ⟨w.heap.size + 1, 2, none⟩) (by show w.heap.size ≤ w.heap.size + 1; omega) (.int .i64 N)
      have hgr := gtr (gtr (set_grown wo (w.heap.size + 1) 0 (.slice Ap k cp)) (set_grown _ (w.heap.size + 1) 1 (.slice Aa k ca))) (set_grown _ (w.heap.size + 1) 2 (.int .i64 N))
      have haF := own_sl (own_gg ho hgr (by omega))
      have HAF := Lib.hid haF
      have HBF := Lib.hid hbF
      have HOO : Hid (∀ q, Value.ownBlock (.slice Aa k ca) = some q → w1.heap.size + 1 ≤ q) := fun q hq => (ho.lt q hq).1
      obtain ⟨t0, t1, t2⟩ := three_set (v0 := .slice Ap k cp) (v1 := .slice Aa k ca) (v2 := .int .i64 N) r0 r1 r2
      have hpF : Sl (((wo.setCell ⟨w.heap.size + 1, 0, none⟩ (.slice Ap k cp)).setCell ⟨w.heap.size + 1, 1, none⟩ (.slice Aa k ca)).setCell ⟨w.heap.size + 1, 2, none⟩ (.int .i64 N)) 7 Ap k (eds ps) := by
        refine ⟨hp1o.1, fun h0 => ?_⟩
        obtain ⟨b, off, e, hb, hc⟩ := hp1o.2 h0
        have h2 := (HAB.out _ e).1
        simp at h2
        refine ⟨b, off, e, by simpa [World.setCell] using hb, fun j u hu => ?_⟩
        rw [World.cell?_setCell_far _ _ _ _ (by show w.heap.size + 1 ≠ b; omega), World.cell?_setCell_far _ _ _ _ (by show w.heap.size + 1 ≠ b; omega), World.cell?_setCell_far _ _ _ _ (by show w.heap.size + 1 ≠ b; omega)]
        exact hc j u hu
      have HPF := Lib.hid hpF
      clear htk hbg hrs hbF hgr haF hpF hf hf1 hf2
      go_wp2
      generalize ((wo.setCell ⟨w.heap.size + 1, 0, none⟩ (.slice Ap k cp)).setCell ⟨w.heap.size + 1, 1, none⟩ (.slice Aa k ca)).setCell ⟨w.heap.size + 1, 2, none⟩ (.int .i64 N) = wF at *
      exact bodyPost_ret (v := .agg #[.slice Ap k cp, .slice Aa k ca, .int .i64 N]) (by simp [results, Tryz.results80, go_sem, t0, t1, t2]) rfl
        ⟨Ap, Aa, cp, ca, rfl, ⟨HM.out, by omega, HOK.out, HPF.out, HAF.out⟩, HBF.out, fun a ha => by
          rcases ha with ha | ha
          · have := (HAB.out a ha).1; omega
          · subst ha; have := HOO.out a.block rfl; omega⟩

end Go.Proofs.YtdfkbbcoolgfiaaGreat

namespace Go.Proofs.YtdfkbbcoolgfiaaGreat
open Go.RowKit

theorem begL_get (l : List Ed) (i : Nat) (h : i < (begL l).length) : (begL l)[i] = sumL (l.take i) := by simp [begL]
theorem RWayIn.begAt {w : World} {Ap Aa : Option Addr} {n : Nat} {ps : List Ed} (h : RWayIn w Ap Aa n ps) (k : Nat) (hk : k < n) :
    ∃ b off : Nat, Aa = some ⟨b, off, none⟩ ∧ b < w.heap.size ∧ w.cell? ⟨b, off + k, none⟩ = some (.int .i64 (sumL (ps.take k))) := by
  have hl : k < (begL ps).length := by rw [begL_len, h.len]; exact hk
  obtain ⟨b, off, e, hb, hc⟩ := h.a.intAt k hk hl
  rw [begL_get] at hc
  exact ⟨b, off, e, hb, hc⟩
theorem RWayIn.sum {w : World} {Ap Aa : Option Addr} {n : Nat} {ps : List Ed} (h : RWayIn w Ap Aa n ps) (k : Nat) : 0 ≤ sumL (ps.take k) ∧ sumL (ps.take k) ≤ sumL ps ∧ sumL ps ≤ 23167000 := by
  have h1 := sumL_bd (l := ps) (fun e he => (h.all e he).1.2)
  have h2 := h.len
  have h3 := h.few
  exact ⟨sumL_nonneg _, sumL_take_le _ _, by omega⟩

set_option maxRecDepth 100000 in
set_option maxHeartbeats 2000000 in
theorem rway_at_any (Ap Aa : Option Addr) (n cp ca k : Nat) (ps : List Ed) (N s : Int) (w : World) (h : RWayIn w Ap Aa n ps) (hk : k < n) (hkl : k < ps.length) (hs0 : sumL (ps.take k) ≤ s) (hs1 : s ≤ sumL (ps.take (k + 1))) :
    Calls Tryz.prog 131 #[.agg #[.slice Ap n cp, .slice Aa n ca, .int .i64 N], .int .i64 k, .int .i64 s] w
      fun e w' => e = .returned (.tuple #[.int .i64 (atE ps[k] (s - sumL (ps.take k))).1, .int .i64 (atE ps[k] (s - sumL (ps.take k))).2]) ∧ Below w.heap.size w w' := by
  have hf := h.few
  have hl := h.len
  obtain ⟨b, off, rfl, hb, c0⟩ := h.begAt k hk
  obtain ⟨t0, t1, t2⟩ := h.sum (k + 1)
  have hst := sumL_take ps k hkl
  obtain ⟨u0, u1, u2⟩ := h.sum k
  obtain ⟨bp, op, rfl, hbp, e0, e1, e2, e3, e4, e5, e6⟩ := h.p.ed k hk hkl
  obtain ⟨⟨hbent, hok⟩, hmv⟩ := h.all _ (List.getElem_mem hkl)
  obtain ⟨ed, hed⟩ : ∃ ed, ed = ps[k] := ⟨_, rfl⟩
  rw [← hed] at hst e0 e1 e2 e3 e4 e5 e6 hbent hok hmv ⊢
  have hHS : Strt ed := ⟨hbent, hok⟩
  have hm1 := lenE_pos hok hmv
  have hm2 := (lenE_bd hok).2
  obtain ⟨⟨a0, a1⟩, ⟨a2, a3⟩, -, -, ⟨a4, a5⟩, ⟨a6, a7⟩, -⟩ := edOK_iff.1 hok
  obtain ⟨m, hm⟩ : ∃ m, m = lenE ed := ⟨_, rfl⟩
  obtain ⟨z, hz⟩ : ∃ z, z = sumL (ps.take k) := ⟨_, rfl⟩
  rw [← hz] at hst hs0 u0 u1 c0 ⊢
  rw [← hm] at hst hm1 hm2
  have hq0 : 0 ≤ s - z ∧ s - z ≤ m := by omega
  obtain ⟨⟨x0, x1⟩, x2, x3⟩ := at_bd (x0 := ed.x0) (x1 := ed.x1) (m := m) (k := s - z) ⟨a0, a1⟩ ⟨a4, a5⟩ ⟨hm1, hm2⟩ hq0
  obtain ⟨⟨y0, y1⟩, y2, y3⟩ := at_bd (x0 := ed.y0) (x1 := ed.y1) (m := m) (k := s - z) ⟨a2, a3⟩ ⟨a6, a7⟩ ⟨hm1, hm2⟩ hq0
  have hat : atE ed (s - z) = (rnd (ed.x0 * m + (ed.x1 - ed.x0) * (s - z)) m, rnd (ed.y0 * m + (ed.y1 - ed.y0) * (s - z)) m) := by rw [hm]; rfl
  have HAT := Lib.hid hat
  have HLE := Lib.hid hm
  have HSS := Lib.hid hHS
  clear hst hbent hok hmv hm hz hed hat hHS
  go_enter Tryz.func131, Tryz.ntmps131
  go_wp2
  obtain ⟨W0, hW0⟩ : ∃ W0 : World, W0 = w.alloc (.cells #[.slice (some ⟨bp, op, none⟩) n cp, .slice (some ⟨b, off, none⟩) n ca, .int .i64 N] 122) := ⟨_, rfl⟩
  rw [← hW0]
  have g0 : W0.cell? ⟨w.heap.size, 0, none⟩ = some (.slice (some ⟨bp, op, none⟩) n cp) := by rw [hW0]; exact new_cell _ 0
  have g1 : W0.cell? ⟨w.heap.size, 1, none⟩ = some (.slice (some ⟨b, off, none⟩) n ca) := by rw [hW0]; exact new_cell _ 1
  have B0 : Below w.heap.size w W0 := by rw [hW0]; exact bal (Below.refl _ _) _
  have hz0 : w.heap.size < W0.heap.size := by rw [hW0]; simp
  have hzp : bp < W0.heap.size := by omega
  have hzb : b < W0.heap.size := by omega
  replace c0 := (later_cell B0 hb).trans c0
  replace e0 := (later_cell B0 hbp).trans e0
  replace e1 := (later_cell B0 hbp).trans e1
  replace e2 := (later_cell B0 hbp).trans e2
  replace e3 := (later_cell B0 hbp).trans e3
  replace e4 := (later_cell B0 hbp).trans e4
  replace e5 := (later_cell B0 hbp).trans e5
  replace e6 := (later_cell B0 hbp).trans e6
  have hS0 := And.intro g0 (And.intro e0 (And.intro e1 (And.intro e2 (And.intro e3 (And.intro e4 (And.intro e5 e6))))))
  clear hW0 h
  go_region_held3 (fun w' => w'.cell? ⟨w.heap.size, 0, none⟩ = some (.slice (some ⟨bp, op, none⟩) n cp) ∧ w'.cell? ⟨bp, op + k * 7, none⟩ = some (.int .i64 ed.x0) ∧ w'.cell? ⟨bp, op + k * 7 + 1, none⟩ = some (.int .i64 ed.y0) ∧ w'.cell? ⟨bp, op + k * 7 + 2, none⟩ = some (.bool ed.bent) ∧
      w'.cell? ⟨bp, op + k * 7 + 3, none⟩ = some (.int .i64 ed.cx) ∧ w'.cell? ⟨bp, op + k * 7 + 4, none⟩ = some (.int .i64 ed.cy) ∧ w'.cell? ⟨bp, op + k * 7 + 5, none⟩ = some (.int .i64 ed.x1) ∧ w'.cell? ⟨bp, op + k * 7 + 6, none⟩ = some (.int .i64 ed.y1)) (first | with_reducible exact keep8 (W := W0) BA hz0 hzp hS0 | with_reducible exact keep8 (W := W0) (bal BA _) hz0 hzp hS0 | with_reducible exact keep8 (W := W0) (bset7 BA (Nat.le_refl _)) hz0 hzp hS0 | go_keep)
    ((go_at_call 130; refine (ref_Long_any ed _ HSS.out).mono ?_; rintro e' w' ⟨rfl, hbA⟩; rw [← HLE.out]; have BA : Below W0.heap.size W0 w' := btr (by repeat (first | exact Below.refl _ _ | refine bal ?_ _ | refine bdrew ?_ | refine bdrewN ?_ _)) hbA; have hzA : w.heap.size < w'.heap.size := Nat.lt_of_lt_of_le hz0 BA.size; have hzP : bp < w'.heap.size := Nat.lt_of_lt_of_le hzp BA.size;
      first | (have hbB : Below (W0.alloc (.cells #[.int .i64 0, .int .i64 0, .bool false, .int .i64 0, .int .i64 0, .int .i64 0, .int .i64 0] 112)).heap.size (W0.alloc (.cells #[.int .i64 0, .int .i64 0, .bool false, .int .i64 0, .int .i64 0, .int .i64 0, .int .i64 0] 112)) w' := ⟨hbA.os, hbA.tape, hbA.output, hbA.size, hbA.block⟩; obtain ⟨f0, z0, hzW⟩ := fz_new hbB (g := W0.heap.size) rfl 0; obtain ⟨f1, z1, -⟩ := fz_new hbB (g := W0.heap.size) rfl 1; obtain ⟨f2, z2, -⟩ := fz_new hbB (g := W0.heap.size) rfl 2; obtain ⟨f3, z3, -⟩ := fz_new hbB (g := W0.heap.size) rfl 3; obtain ⟨f4, z4, -⟩ := fz_new hbB (g := W0.heap.size) rfl 4; obtain ⟨f5, z5, -⟩ := fz_new hbB (g := W0.heap.size) rfl 5; obtain ⟨f6, z6, -⟩ := fz_new hbB (g := W0.heap.size) rfl 6; clear hbA hbB) | clear hbA))
  all_goals (clear hS0)
  · obtain ⟨W2, hW2⟩ : ∃ W2 : World, W2 = w'.alloc (.cells #[.int .i64 ed.x0, .int .i64 ed.y0, .bool ed.bent, .int .i64 ed.cx, .int .i64 ed.cy, .int .i64 ed.x1, .int .i64 ed.y1] 112) := ⟨_, rfl⟩
    rw [← hW2]
    have hnc := fun j => new_cell (w := w') (t := 112) #[.int .i64 ed.x0, .int .i64 ed.y0, .bool ed.bent, .int .i64 ed.cx, .int .i64 ed.cy, .int .i64 ed.x1, .int .i64 ed.y1] j
    rw [← hW2] at hnc
    have B2 : Below W0.heap.size W0 W2 := by rw [hW2]; exact bal BA _
    have d0 : W2.cell? ⟨w'.heap.size, 0, none⟩ = some (.int .i64 ed.x0) := hnc 0
    have d1 : W2.cell? ⟨w'.heap.size, 1, none⟩ = some (.int .i64 ed.y0) := hnc 1
    have d5 : W2.cell? ⟨w'.heap.size, 5, none⟩ = some (.int .i64 ed.x1) := hnc 5
    have d6 : W2.cell? ⟨w'.heap.size, 6, none⟩ = some (.int .i64 ed.y1) := hnc 6
    clear hnc hW2 BA hzA hzP
    have C0 := (later_cell B2 hzb).trans c0
    have G1 := (later_cell B2 hz0).trans g1
    have BB := btr B0 B2
    clear c0 e0 e1 e2 e3 e4 e5 e6 g0 g1 B2
    generalize w'.heap.size = g at *
    go_wp2
    go_quiet ((go_at_call 159; exact quiet_left (Near_any2 _ _ _ (by omega) (by omega))))
    go_wp2
    go_ret2
    rw [HAT.out]
    exact ⟨rfl, bdrewN BB _⟩
  · obtain ⟨W2, hW2⟩ : ∃ W2 : World, W2 = ((((((w'.setCell ⟨W0.heap.size, 0, none⟩ (.int .i64 ed.x0)).setCell ⟨W0.heap.size, 1, none⟩ (.int .i64 ed.y0)).setCell ⟨W0.heap.size, 2, none⟩ (.bool ed.bent)).setCell ⟨W0.heap.size, 3, none⟩ (.int .i64 ed.cx)).setCell ⟨W0.heap.size, 4, none⟩ (.int .i64 ed.cy)).setCell ⟨W0.heap.size, 5, none⟩ (.int .i64 ed.x1)).setCell ⟨W0.heap.size, 6, none⟩ (.int .i64 ed.y1) := ⟨_, rfl⟩
    rw [← hW2]
    have B2 : Below W0.heap.size W0 W2 := by rw [hW2]; exact bset7 BA (Nat.le_refl _)
    have hnc := cell7 (w := w') (g := W0.heap.size) (v0 := .int .i64 ed.x0) (v1 := .int .i64 ed.y0) (v2 := .bool ed.bent) (v3 := .int .i64 ed.cx) (v4 := .int .i64 ed.cy) (v5 := .int .i64 ed.x1) (v6 := .int .i64 ed.y1) (u := fun j => (#[Value.int .i64 0, Value.int .i64 0, Value.bool false, Value.int .i64 0, Value.int .i64 0, Value.int .i64 0, Value.int .i64 0] : Array Value).getD j undef)
      (by intro j hj; rcases j with _ | _ | _ | _ | _ | _ | _ | j; exact z0; exact z1; exact z2; exact z3; exact z4; exact z5; exact z6; omega)
    rw [← hW2] at hnc
    have d0 : W2.cell? ⟨W0.heap.size, 0, none⟩ = some (.int .i64 ed.x0) := hnc 0 (by omega)
    have d1 : W2.cell? ⟨W0.heap.size, 1, none⟩ = some (.int .i64 ed.y0) := hnc 1 (by omega)
    have d5 : W2.cell? ⟨W0.heap.size, 5, none⟩ = some (.int .i64 ed.x1) := hnc 5 (by omega)
    have d6 : W2.cell? ⟨W0.heap.size, 6, none⟩ = some (.int .i64 ed.y1) := hnc 6 (by omega)
    clear hnc hW2 BA hzA hzP f0 f1 f2 f3 f4 f5 f6 z0 z1 z2 z3 z4 z5 z6 hzW
    have C0 := (later_cell B2 hzb).trans c0
    have G1 := (later_cell B2 hz0).trans g1
    have BB := btr B0 B2
    clear c0 e0 e1 e2 e3 e4 e5 e6 g0 g1 B2
    generalize W0.heap.size = g at *
    go_wp2
    go_quiet ((go_at_call 159; exact quiet_left (Near_any2 _ _ _ (by omega) (by omega))))
    go_wp2
    go_ret2
    rw [HAT.out]
    exact ⟨rfl, bdrewN BB _⟩

end Go.Proofs.YtdfkbbcoolgfiaaGreat

namespace Go.Proofs.YtdfkbbcoolgfiaaGreat
open Go.RowKit

def dIx1 : Oper := ⟨some 62, .indexAddr 109 (.tmp 60) (.tmp 61), 0, "ref.go:203", #[⟨2, .data⟩, ⟨3, .data⟩], none⟩
theorem dIx1_is : (⟨some 62, .indexAddr 109 (.tmp 60) (.tmp 61), 0, "ref.go:203", #[⟨2, .data⟩, ⟨3, .data⟩], none⟩ : Oper) = dIx1 := rfl
def dIx2 : Oper := ⟨some 68, .indexAddr 109 (.tmp 66) (.tmp 67), 0, "ref.go:203", #[⟨8, .data⟩, ⟨9, .data⟩], none⟩
theorem dIx2_is : (⟨some 68, .indexAddr 109 (.tmp 66) (.tmp 67), 0, "ref.go:203", #[⟨8, .data⟩, ⟨9, .data⟩], none⟩ : Oper) = dIx2 := rfl
attribute [local go_sem] dIx1 dIx2
set_option maxRecDepth 100000 in
set_option maxHeartbeats 4000000 in
theorem drawn_any (Ap Aa : Option Addr) (n cp ca : Nat) (ps : List Ed) (N a b : Int) (w : World) (h : RWayIn w Ap Aa n ps) (hj : Joined ps) (ha0 : 0 ≤ a) (ha1 : a < sumL ps) (hb0 : a ≤ b) (hb1 : b ≤ sumL ps) :
    Calls Tryz.prog 81 #[.agg #[.slice Ap n cp, .slice Aa n ca, .int .i64 N], .int .i64 a, .int .i64 b] w
      fun e w' => ∃ (A : Option Addr) (c : Nat), e = .returned (.slice A (partW ps a b).length c) ∧ w'.ownsRow w.heap.size 63 5 (.slice A (partW ps a b).length c) (partW ps a b).length (sgs (partW ps a b)) ∧ Below w.heap.size w w' := by
  have hf := h.few
  have hl := h.len
  have hn0 : 0 < n := by
    rcases Nat.eq_zero_or_pos n with h0 | h0
    · rw [h0] at hl; have := List.eq_nil_of_length_eq_zero hl; subst this; simp [sumL] at ha1; omega
    · exact h0
  have hps : ∀ e ∈ ps, 1 ≤ lenE e := fun e he => (lenE_pos (h.all e he).1.2 (h.all e he).2)
  have HL := Lib.hid hl
  have HJ := Lib.hid hj
  have HPS := Lib.hid hps
  have HA1 := Lib.hid ha1
  have HB1 := Lib.hid hb1
  clear hl hj hps ha1 hb1
  have hB0 := bal (Below.refl w.heap.size w) (.cells #[.slice Ap n cp, .slice Aa n ca, .int .i64 N] 122)
  have c0 := new_cell (w := w) (t := 122) #[.slice Ap n cp, .slice Aa n ca, .int .i64 N] 0
  have c1 := new_cell (w := w) (t := 122) #[.slice Ap n cp, .slice Aa n ca, .int .i64 N] 1
  have c2 := new_cell (w := w) (t := 122) #[.slice Ap n cp, .slice Aa n ca, .int .i64 N] 2
  have hz0 : w.heap.size < (w.alloc (.cells #[.slice Ap n cp, .slice Aa n ca, .int .i64 N] 122)).heap.size := by simp
  go_enter Tryz.func81, Tryz.ntmps81
  go_wp2
  go_loop [7] (fun i => ∃ k : Nat, k < n ∧ i = .int .i64 (k : Int) ∧ Hid (sumL (ps.take k) ≤ a)) (fun i => n - (intOf i).toNat)
  case atStart => exact ⟨0, hn0, rfl, by show sumL (ps.take 0) ≤ a; simp [sumL]; omega⟩
  case round =>
    obtain ⟨k, hk, rfl, hlo⟩ := hrel
    obtain ⟨b0, off, rfl, hb, -⟩ := h.begAt 0 hn0
    have hkl : k < ps.length := by rw [HL.out]; exact hk
    by_cases hgo : k + 1 < n ∧ sumL (ps.take (k + 1)) ≤ a
    · obtain ⟨hk1, hle⟩ := hgo
      obtain ⟨b1, off1, he1, hbb, q0⟩ := h.begAt (k + 1) hk1
      obtain ⟨rfl, rfl⟩ : b0 = b1 ∧ off = off1 := by simpa using he1
      replace q0 := (later_cell hB0 hb).trans q0
      obtain ⟨te, hte⟩ : ∃ te, te = sumL (ps.take (k + 1)) := ⟨_, rfl⟩
      rw [← hte] at q0 hle
      have HTE := Lib.hid hte
      clear hte he1 hbb
      go_wp2
      go_round
      case rel => exact ⟨k + 1, hk1, by go_num, by show sumL (ps.take (k + 1)) ≤ a; rw [← HTE.out]; exact hle⟩
      case measure => simp [intOf]; omega
    · have hup : a < sumL (ps.take (k + 1)) := by
        by_cases h1 : k + 1 < n
        · omega
        · rw [List.take_of_length_le (by rw [HL.out]; omega)]; exact HA1.out
      have HUP := Lib.hid hup
      clear hup
      have hat := fun W hW => rway_at_any Ap (some ⟨b0, off, none⟩) n cp ca k ps N a W hW hk hkl hlo.out (Int.le_of_lt HUP.out)
      rw [atW_on HJ.out HPS.out k a hkl hlo.out (Int.le_of_lt HUP.out)] at hat
      obtain ⟨x, hx⟩ : ∃ x, x = (atW ps a).1 := ⟨_, rfl⟩
      obtain ⟨y, hy⟩ : ∃ y, y = (atW ps a).2 := ⟨_, rfl⟩
      rw [← hx, ← hy] at hat
      have HX := Lib.hid hx
      have HY := Lib.hid hy
      have HAT := Lib.hid hat
      clear hx hy hat
      by_cases h1 : k + 1 < n
      · have h2 : a < sumL (ps.take (k + 1)) := HUP.out
        obtain ⟨b1, off1, he1, hbb, q0⟩ := h.begAt (k + 1) h1
        obtain ⟨rfl, rfl⟩ : b0 = b1 ∧ off = off1 := by simpa using he1
        replace q0 := (later_cell hB0 hb).trans q0
        obtain ⟨te, hte⟩ : ∃ te, te = sumL (ps.take (k + 1)) := ⟨_, rfl⟩
        rw [← hte] at q0 h2
        clear hte he1 hbb hgo
        go_wp2_with fail
        refine (HAT.out _ (h.below hB0)).mono ?_
        rintro e w1 ⟨rfl, hbA⟩
        have B1 := btr hB0 hbA
        have C0 : w1.cell? ⟨w.heap.size, 0, none⟩ = some (.slice Ap n cp) := (later_cell hbA hz0).trans c0
        have C1 : w1.cell? ⟨w.heap.size, 1, none⟩ = some (.slice (some ⟨b0, off, none⟩) n ca) := (later_cell hbA hz0).trans c1
        have C2 : w1.cell? ⟨w.heap.size, 2, none⟩ = some (.int .i64 N) := (later_cell hbA hz0).trans c2
        have hz1 : w.heap.size < w1.heap.size := Nat.lt_of_lt_of_le hz0 hbA.size
        clear hB0 c0 c1 c2 hz0 hbA HAT
        go_wp2
        have hown1 := own_new (w := w1) (t := 63) (n := 1) (s := 5) (base := w1.heap.size) (sgc ⟨1, x, y, 0, 0⟩) rfl rfl (Nat.le_refl _) (by omega)
        have hin0 : sgs (⟨1, x, y, 0, 0⟩ :: innW (ps.take k) a b) = sgc ⟨1, x, y, 0, 0⟩ := by rw [innW_before ps a b k (Nat.le_of_lt hkl) hlo.out]; exact sgs_one _
        have hownS : (w1.alloc (.cells #[.int .i64 1, .int .i64 x, .int .i64 y, .int .i64 0, .int .i64 0] 63)).ownsRow w1.heap.size 63 5 (.slice (some ⟨w1.heap.size, 0, none⟩) 1 1) 1 (sgs (⟨1, x, y, 0, 0⟩ :: innW (ps.take k) a b)) := by rw [hin0]; exact hown1
        have hlb : Hid (sumL (ps.take k) ≤ b) := Int.le_trans hlo.out hb0
        clear hin0
        go_loopw [7, 10] (fun i out wr => ∃ (k2 m : Nat) (A : Option Addr) (c : Nat), k ≤ k2 ∧ k2 < n ∧ i = .int .i64 (k2 : Int) ∧ out = .slice A m c ∧ Below w1.heap.size w1 wr ∧ wr.ownsRow w1.heap.size 63 5 (.slice A m c) m (sgs (⟨1, x, y, 0, 0⟩ :: innW (ps.take k2) a b)) ∧ m ≤ k2 + 1 ∧ Hid (sumL (ps.take k2) ≤ b) ∧ Hid (a < sumL (ps.take (k2 + 1)))) (fun i _ _ => n - (intOf i).toNat)
        case atStart => exact ⟨k, 1, _, 1, by omega, hk, rfl, rfl, bal (Below.refl _ _) _, hownS, by omega, hlb, HUP⟩
        case round =>
          clear hown1 hownS hlb HUP
          obtain ⟨wo, rfl⟩ : ∃ wo : World, wo = wr := ⟨_, rfl⟩
          obtain ⟨k2, m, A, c, hkk, hk2, rfl, rfl, hbr, hown, hmk, hlb, hua⟩ := hrel
          have D0 := (later_cell hbr hz1).trans C0
          have D1 := (later_cell hbr hz1).trans C1
          have D2 := (later_cell hbr hz1).trans C2
          have hzo := Nat.lt_of_lt_of_le hz1 hbr.size
          have hk2l : k2 < ps.length := by rw [HL.out]; exact hk2
          by_cases hgo : k2 + 1 < n ∧ sumL (ps.take (k2 + 1)) < b
          · first
            | (exfalso; omega)
            | (
              obtain ⟨hk1, hle⟩ := hgo
              obtain ⟨b1, off1, he1, hbb, q1⟩ := h.begAt (k2 + 1) hk1
              obtain ⟨rfl, rfl⟩ : b0 = b1 ∧ off = off1 := by simpa using he1
              have hk3l : k2 + 1 < ps.length := by rw [HL.out]; exact hk1
              obtain ⟨bp, op, rfl, hbp, p0, p1, -, -, -, -, -⟩ := h.p.ed (k2 + 1) hk1 hk3l
              have hBo := btr B1 hbr
              replace q1 := (later_cell hBo hb).trans q1
              have hit := innW_take ps k2 hk2l a b
              have hE : innE (sumL (ps.take (k2 + 1))) ps[k2] a b = [⟨2, ps[k2 + 1].x0, ps[k2 + 1].y0, 0, 0⟩] := by
                unfold innE; rw [if_pos ⟨hua.out, hle⟩, (HJ.out k2 hk3l).1, (HJ.out k2 hk3l).2]
              rw [hE] at hit
              obtain ⟨ed, hed⟩ : ∃ ed, ed = ps[k2 + 1] := ⟨_, rfl⟩
              have hnx : Hid (a < sumL (ps.take (k2 + 1 + 1))) := by
                have h1 := sumL_take ps (k2 + 1) hk3l
                have h2 := lenE_nonneg ps[k2 + 1]
                have h3 := hua.out
                show a < _
                omega
              obtain ⟨te, hte⟩ : ∃ te, te = sumL (ps.take (k2 + 1)) := ⟨_, rfl⟩
              rw [← hed] at p0 p1 hit
              rw [← hte] at q1 hle
              have hnew : sgs (⟨1, x, y, 0, 0⟩ :: innW (ps.take (k2 + 1)) a b) = sgs (⟨1, x, y, 0, 0⟩ :: innW (ps.take k2) a b) ++ sgc ⟨2, ed.x0, ed.y0, 0, 0⟩ := by rw [hit, ← List.cons_append, sgs_app, sgs_one]
              have hlb2 : Hid (sumL (ps.take (k2 + 1)) ≤ b) := by show _ ≤ b; rw [← hte]; exact Int.le_of_lt hle
              have HNEW := Lib.hid hnew
              have hS1 := And.intro C0 (And.intro ((later_cell B1 hbp).trans p0) ((later_cell B1 hbp).trans p1))
              have hzp := Nat.lt_of_lt_of_le hbp B1.size
              replace p0 := (later_cell hBo hbp).trans p0
              replace p1 := (later_cell hBo hbp).trans p1
              have hbp1 : bp < wo.heap.size := Nat.lt_of_lt_of_le hbp hBo.size
              have hS0 := And.intro D0 (And.intro p0 p1)
              clear hed hte hit hE hnew he1 hbb hua hlb
              go_wp2_with fail
              rw [dIx1_is, dIx2_is]
              go_region_held3 (fun w' => w'.cell? ⟨w.heap.size, 0, none⟩ = some (.slice (some ⟨bp, op, none⟩) n cp) ∧ w'.cell? ⟨bp, op + (k2 + 1) * 7, none⟩ = some (.int .i64 ed.x0) ∧ w'.cell? ⟨bp, op + (k2 + 1) * 7 + 1, none⟩ = some (.int .i64 ed.y0))
                (first | with_reducible exact hs5 | go_keep)
                ((refine step_app (by rfl) _ _ 24 (by rfl) w1.heap.size sgT2 (by rfl) (own_below hown (by repeat (first | with_reducible exact Below.refl _ _ | with_reducible refine bal ?_ _ | with_reducible refine bdrew ?_))) (sgc ⟨2, ed.x0, ed.y0, 0, 0⟩) (by rfl) (sl_newN _ (by simp) rfl) (oneCell_sgc _) (by omega) (by have := hbr.size; simp; omega) ?_; intro A5 c5 w5 hown5 hg5 hat5; have hb5 : Below w1.heap.size w1 w5 := grown_below (btr hbr (by repeat (first | with_reducible exact Below.refl _ _ | with_reducible refine bal ?_ _ | with_reducible refine bdrew ?_))) hg5 (own_below hown (by repeat (first | with_reducible exact Below.refl _ _ | with_reducible refine bal ?_ _ | with_reducible refine bdrew ?_))); have hs5 := keep3 (W := w1) hb5 hz1 hzp hS1))
              all_goals
                go_wp2
                go_roundw
                case rel => exact ⟨k2 + 1, m + 1, A5, c5, by omega, hk1, by go_num, rfl, hb5, by rw [HNEW.out]; exact hown5, by omega, hlb2, hnx⟩
                case measure => simp [intOf]; omega)
          · have hub : b ≤ sumL (ps.take (k2 + 1)) := by
              by_cases h1 : k2 + 1 < n
              · omega
              · rw [List.take_of_length_le (by rw [HL.out]; omega)]; exact HB1.out
            have hbt := fun W hW => rway_at_any Ap (some ⟨b0, off, none⟩) n cp ca k2 ps N b W hW hk2 hk2l hlb.out hub
            rw [atW_on HJ.out HPS.out k2 b hk2l hlb.out hub] at hbt
            obtain ⟨x2, hx2⟩ : ∃ x, x = (atW ps b).1 := ⟨_, rfl⟩
            obtain ⟨y2, hy2⟩ : ∃ y, y = (atW ps b).2 := ⟨_, rfl⟩
            rw [← hx2, ← hy2] at hbt
            have hall := innW_from ps k2 a b (Or.inl hub)
            rw [← hall] at hown
            have hwo := h.below (btr B1 hbr)
            have hpw : partW ps a b = (⟨1, x, y, 0, 0⟩ :: innW ps a b) ++ [⟨2, x2, y2, 0, 0⟩] := by unfold partW; rw [← HX.out, ← HY.out, ← hx2, ← hy2]; rfl
            have hml : m = (⟨1, x, y, 0, 0⟩ :: innW ps a b : List Sg).length := by have := (own_sl hown).sglen; omega
            have hpl : (partW ps a b).length = m + 1 := by rw [hpw, List.length_append, ← hml]; rfl
            have HPW := Lib.hid hpw
            have HPL := Lib.hid hpl
            have HBT := Lib.hid hbt
            clear hbt hx2 hy2 hall hpw hml hpl hlb hua
            by_cases h1 : k2 + 1 < n
            · first
              | (exfalso; omega)
              | (
                obtain ⟨b1, off1, he1, hbb, q1⟩ := h.begAt (k2 + 1) h1
                obtain ⟨rfl, rfl⟩ : b0 = b1 ∧ off = off1 := by simpa using he1
                replace q1 := (later_cell (btr B1 hbr) hb).trans q1
                obtain ⟨te, hte⟩ : ∃ te, te = sumL (ps.take (k2 + 1)) := ⟨_, rfl⟩
                rw [← hte] at q1 hub
                clear hte he1 hbb hgo
                go_wp2_with fail
                refine (HBT.out _ hwo).mono ?_
                rintro e w2 ⟨rfl, hb2⟩
                have B2 := btr (btr B1 hbr) hb2
                have hb12 := btr hbr hb2
                have hown2 := own_below hown hb2
                have hsz := hb12.size
                clear hbr hown hwo HBT
                go_wp2_with (at_builtin; refine wpList_app rfl _ _ 24 rfl w1.heap.size sgT2 rfl (own_below hown2 (bal (Below.refl _ _) _)) (sgc ⟨2, x2, y2, 0, 0⟩) rfl (sl_newN _ (by simp) rfl) (oneCell_sgc _) (by omega) (by simp; omega) ?_; intro A5 c5 w5 hown5 hg5 hat5)
                go_ret
                refine ⟨A5, c5, by rw [HPL.out]; rfl, ?_, btr B1 (grown_below (bal hb12 _) hg5 (own_below hown2 (bal (Below.refl _ _) _)))⟩
                rw [HPL.out, HPW.out, sgs_app, sgs_one]
                exact own_mono hown5 B1.size)
            · clear hgo hub
              go_wp2_with fail
              refine (HBT.out _ hwo).mono ?_
              rintro e w2 ⟨rfl, hb2⟩
              have B2 := btr (btr B1 hbr) hb2
              have hb12 := btr hbr hb2
              have hown2 := own_below hown hb2
              have hsz := hb12.size
              clear hbr hown hwo HBT
              go_wp2_with (at_builtin; refine wpList_app rfl _ _ 24 rfl w1.heap.size sgT2 rfl (own_below hown2 (bal (Below.refl _ _) _)) (sgc ⟨2, x2, y2, 0, 0⟩) rfl (sl_newN _ (by simp) rfl) (oneCell_sgc _) (by omega) (by simp; omega) ?_; intro A5 c5 w5 hown5 hg5 hat5)
              go_ret
              refine ⟨A5, c5, by rw [HPL.out]; rfl, ?_, btr B1 (grown_below (bal hb12 _) hg5 (own_below hown2 (bal (Below.refl _ _) _)))⟩
              rw [HPL.out, HPW.out, sgs_app, sgs_one]
              exact own_mono hown5 B1.size
      · clear hgo
        go_wp2_with fail
        refine (HAT.out _ (h.below hB0)).mono ?_
        rintro e w1 ⟨rfl, hbA⟩
        have B1 := btr hB0 hbA
        have C0 : w1.cell? ⟨w.heap.size, 0, none⟩ = some (.slice Ap n cp) := (later_cell hbA hz0).trans c0
        have C1 : w1.cell? ⟨w.heap.size, 1, none⟩ = some (.slice (some ⟨b0, off, none⟩) n ca) := (later_cell hbA hz0).trans c1
        have C2 : w1.cell? ⟨w.heap.size, 2, none⟩ = some (.int .i64 N) := (later_cell hbA hz0).trans c2
        have hz1 : w.heap.size < w1.heap.size := Nat.lt_of_lt_of_le hz0 hbA.size
        clear hB0 c0 c1 c2 hz0 hbA HAT
        go_wp2
        have hown1 := own_new (w := w1) (t := 63) (n := 1) (s := 5) (base := w1.heap.size) (sgc ⟨1, x, y, 0, 0⟩) rfl rfl (Nat.le_refl _) (by omega)
        have hin0 : sgs (⟨1, x, y, 0, 0⟩ :: innW (ps.take k) a b) = sgc ⟨1, x, y, 0, 0⟩ := by rw [innW_before ps a b k (Nat.le_of_lt hkl) hlo.out]; exact sgs_one _
        have hownS : (w1.alloc (.cells #[.int .i64 1, .int .i64 x, .int .i64 y, .int .i64 0, .int .i64 0] 63)).ownsRow w1.heap.size 63 5 (.slice (some ⟨w1.heap.size, 0, none⟩) 1 1) 1 (sgs (⟨1, x, y, 0, 0⟩ :: innW (ps.take k) a b)) := by rw [hin0]; exact hown1
        have hlb : Hid (sumL (ps.take k) ≤ b) := Int.le_trans hlo.out hb0
        clear hin0
        go_loopw [7, 10] (fun i out wr => ∃ (k2 m : Nat) (A : Option Addr) (c : Nat), k ≤ k2 ∧ k2 < n ∧ i = .int .i64 (k2 : Int) ∧ out = .slice A m c ∧ Below w1.heap.size w1 wr ∧ wr.ownsRow w1.heap.size 63 5 (.slice A m c) m (sgs (⟨1, x, y, 0, 0⟩ :: innW (ps.take k2) a b)) ∧ m ≤ k2 + 1 ∧ Hid (sumL (ps.take k2) ≤ b) ∧ Hid (a < sumL (ps.take (k2 + 1)))) (fun i _ _ => n - (intOf i).toNat)
        case atStart => exact ⟨k, 1, _, 1, by omega, hk, rfl, rfl, bal (Below.refl _ _) _, hownS, by omega, hlb, HUP⟩
        case round =>
          clear hown1 hownS hlb HUP
          obtain ⟨wo, rfl⟩ : ∃ wo : World, wo = wr := ⟨_, rfl⟩
          obtain ⟨k2, m, A, c, hkk, hk2, rfl, rfl, hbr, hown, hmk, hlb, hua⟩ := hrel
          have D0 := (later_cell hbr hz1).trans C0
          have D1 := (later_cell hbr hz1).trans C1
          have D2 := (later_cell hbr hz1).trans C2
          have hzo := Nat.lt_of_lt_of_le hz1 hbr.size
          have hk2l : k2 < ps.length := by rw [HL.out]; exact hk2
          by_cases hgo : k2 + 1 < n ∧ sumL (ps.take (k2 + 1)) < b
          · first
            | (exfalso; omega)
            | (
              obtain ⟨hk1, hle⟩ := hgo
              obtain ⟨b1, off1, he1, hbb, q1⟩ := h.begAt (k2 + 1) hk1
              obtain ⟨rfl, rfl⟩ : b0 = b1 ∧ off = off1 := by simpa using he1
              have hk3l : k2 + 1 < ps.length := by rw [HL.out]; exact hk1
              obtain ⟨bp, op, rfl, hbp, p0, p1, -, -, -, -, -⟩ := h.p.ed (k2 + 1) hk1 hk3l
              have hBo := btr B1 hbr
              replace q1 := (later_cell hBo hb).trans q1
              have hit := innW_take ps k2 hk2l a b
              have hE : innE (sumL (ps.take (k2 + 1))) ps[k2] a b = [⟨2, ps[k2 + 1].x0, ps[k2 + 1].y0, 0, 0⟩] := by
                unfold innE; rw [if_pos ⟨hua.out, hle⟩, (HJ.out k2 hk3l).1, (HJ.out k2 hk3l).2]
              rw [hE] at hit
              obtain ⟨ed, hed⟩ : ∃ ed, ed = ps[k2 + 1] := ⟨_, rfl⟩
              have hnx : Hid (a < sumL (ps.take (k2 + 1 + 1))) := by
                have h1 := sumL_take ps (k2 + 1) hk3l
                have h2 := lenE_nonneg ps[k2 + 1]
                have h3 := hua.out
                show a < _
                omega
              obtain ⟨te, hte⟩ : ∃ te, te = sumL (ps.take (k2 + 1)) := ⟨_, rfl⟩
              rw [← hed] at p0 p1 hit
              rw [← hte] at q1 hle
              have hnew : sgs (⟨1, x, y, 0, 0⟩ :: innW (ps.take (k2 + 1)) a b) = sgs (⟨1, x, y, 0, 0⟩ :: innW (ps.take k2) a b) ++ sgc ⟨2, ed.x0, ed.y0, 0, 0⟩ := by rw [hit, ← List.cons_append, sgs_app, sgs_one]
              have hlb2 : Hid (sumL (ps.take (k2 + 1)) ≤ b) := by show _ ≤ b; rw [← hte]; exact Int.le_of_lt hle
              have HNEW := Lib.hid hnew
              have hS1 := And.intro C0 (And.intro ((later_cell B1 hbp).trans p0) ((later_cell B1 hbp).trans p1))
              have hzp := Nat.lt_of_lt_of_le hbp B1.size
              replace p0 := (later_cell hBo hbp).trans p0
              replace p1 := (later_cell hBo hbp).trans p1
              have hbp1 : bp < wo.heap.size := Nat.lt_of_lt_of_le hbp hBo.size
              have hS0 := And.intro D0 (And.intro p0 p1)
              clear hed hte hit hE hnew he1 hbb hua hlb
              go_wp2_with fail
              rw [dIx1_is, dIx2_is]
              go_region_held3 (fun w' => w'.cell? ⟨w.heap.size, 0, none⟩ = some (.slice (some ⟨bp, op, none⟩) n cp) ∧ w'.cell? ⟨bp, op + (k2 + 1) * 7, none⟩ = some (.int .i64 ed.x0) ∧ w'.cell? ⟨bp, op + (k2 + 1) * 7 + 1, none⟩ = some (.int .i64 ed.y0))
                (first | with_reducible exact hs5 | go_keep)
                ((refine step_app (by rfl) _ _ 24 (by rfl) w1.heap.size sgT2 (by rfl) (own_below hown (by repeat (first | with_reducible exact Below.refl _ _ | with_reducible refine bal ?_ _ | with_reducible refine bdrew ?_))) (sgc ⟨2, ed.x0, ed.y0, 0, 0⟩) (by rfl) (sl_newN _ (by simp) rfl) (oneCell_sgc _) (by omega) (by have := hbr.size; simp; omega) ?_; intro A5 c5 w5 hown5 hg5 hat5; have hb5 : Below w1.heap.size w1 w5 := grown_below (btr hbr (by repeat (first | with_reducible exact Below.refl _ _ | with_reducible refine bal ?_ _ | with_reducible refine bdrew ?_))) hg5 (own_below hown (by repeat (first | with_reducible exact Below.refl _ _ | with_reducible refine bal ?_ _ | with_reducible refine bdrew ?_))); have hs5 := keep3 (W := w1) hb5 hz1 hzp hS1))
              all_goals
                go_wp2
                go_roundw
                case rel => exact ⟨k2 + 1, m + 1, A5, c5, by omega, hk1, by go_num, rfl, hb5, by rw [HNEW.out]; exact hown5, by omega, hlb2, hnx⟩
                case measure => simp [intOf]; omega)
          · have hub : b ≤ sumL (ps.take (k2 + 1)) := by
              by_cases h1 : k2 + 1 < n
              · omega
              · rw [List.take_of_length_le (by rw [HL.out]; omega)]; exact HB1.out
            have hbt := fun W hW => rway_at_any Ap (some ⟨b0, off, none⟩) n cp ca k2 ps N b W hW hk2 hk2l hlb.out hub
            rw [atW_on HJ.out HPS.out k2 b hk2l hlb.out hub] at hbt
            obtain ⟨x2, hx2⟩ : ∃ x, x = (atW ps b).1 := ⟨_, rfl⟩
            obtain ⟨y2, hy2⟩ : ∃ y, y = (atW ps b).2 := ⟨_, rfl⟩
            rw [← hx2, ← hy2] at hbt
            have hall := innW_from ps k2 a b (Or.inl hub)
            rw [← hall] at hown
            have hwo := h.below (btr B1 hbr)
            have hpw : partW ps a b = (⟨1, x, y, 0, 0⟩ :: innW ps a b) ++ [⟨2, x2, y2, 0, 0⟩] := by unfold partW; rw [← HX.out, ← HY.out, ← hx2, ← hy2]; rfl
            have hml : m = (⟨1, x, y, 0, 0⟩ :: innW ps a b : List Sg).length := by have := (own_sl hown).sglen; omega
            have hpl : (partW ps a b).length = m + 1 := by rw [hpw, List.length_append, ← hml]; rfl
            have HPW := Lib.hid hpw
            have HPL := Lib.hid hpl
            have HBT := Lib.hid hbt
            clear hbt hx2 hy2 hall hpw hml hpl hlb hua
            by_cases h1 : k2 + 1 < n
            · first
              | (exfalso; omega)
              | (
                obtain ⟨b1, off1, he1, hbb, q1⟩ := h.begAt (k2 + 1) h1
                obtain ⟨rfl, rfl⟩ : b0 = b1 ∧ off = off1 := by simpa using he1
                replace q1 := (later_cell (btr B1 hbr) hb).trans q1
                obtain ⟨te, hte⟩ : ∃ te, te = sumL (ps.take (k2 + 1)) := ⟨_, rfl⟩
                rw [← hte] at q1 hub
                clear hte he1 hbb hgo
                go_wp2_with fail
                refine (HBT.out _ hwo).mono ?_
                rintro e w2 ⟨rfl, hb2⟩
                have B2 := btr (btr B1 hbr) hb2
                have hb12 := btr hbr hb2
                have hown2 := own_below hown hb2
                have hsz := hb12.size
                clear hbr hown hwo HBT
                go_wp2_with (at_builtin; refine wpList_app rfl _ _ 24 rfl w1.heap.size sgT2 rfl (own_below hown2 (bal (Below.refl _ _) _)) (sgc ⟨2, x2, y2, 0, 0⟩) rfl (sl_newN _ (by simp) rfl) (oneCell_sgc _) (by omega) (by simp; omega) ?_; intro A5 c5 w5 hown5 hg5 hat5)
                go_ret
                refine ⟨A5, c5, by rw [HPL.out]; rfl, ?_, btr B1 (grown_below (bal hb12 _) hg5 (own_below hown2 (bal (Below.refl _ _) _)))⟩
                rw [HPL.out, HPW.out, sgs_app, sgs_one]
                exact own_mono hown5 B1.size)
            · clear hgo hub
              go_wp2_with fail
              refine (HBT.out _ hwo).mono ?_
              rintro e w2 ⟨rfl, hb2⟩
              have B2 := btr (btr B1 hbr) hb2
              have hb12 := btr hbr hb2
              have hown2 := own_below hown hb2
              have hsz := hb12.size
              clear hbr hown hwo HBT
              go_wp2_with (at_builtin; refine wpList_app rfl _ _ 24 rfl w1.heap.size sgT2 rfl (own_below hown2 (bal (Below.refl _ _) _)) (sgc ⟨2, x2, y2, 0, 0⟩) rfl (sl_newN _ (by simp) rfl) (oneCell_sgc _) (by omega) (by simp; omega) ?_; intro A5 c5 w5 hown5 hg5 hat5)
              go_ret
              refine ⟨A5, c5, by rw [HPL.out]; rfl, ?_, btr B1 (grown_below (bal hb12 _) hg5 (own_below hown2 (bal (Below.refl _ _) _)))⟩
              rw [HPL.out, HPW.out, sgs_app, sgs_one]
              exact own_mono hown5 B1.size

end Go.Proofs.YtdfkbbcoolgfiaaGreat
