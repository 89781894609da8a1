/- stroke.pieces. -/
import Derived.Test.YtbpgehaflbacmaaStroke2
import Derived.Test.YtbpgehaflbacmaaDash4
import Derived.Test.YtbpgehaflbacmaaAllP
namespace Go.Proofs.Ytbpgehaflbacmaa
open Go.RowKit

/-- A block that is newer than a row stays while the row grows. -/
theorem keep_new {w w' : World} {t : TypeId} {s B n c g : Nat} {A : Option Addr} {xs : List Value} (hg : w.grownBy w' (Value.ownBlock (.slice A n c))) (_ho : w.ownsRow B t s (.slice A n c) n xs) (hq : ∀ q, Value.ownBlock (.slice A n c) = some q → q < g) (hlt : g < w.heap.size) (j : Nat) :
    w'.cell? ⟨g, j, none⟩ = w.cell? ⟨g, j, none⟩ :=
  World.cell?_of_block (a := ⟨g, j, none⟩) (hg.block g hlt (fun e => by have := hq g e.symm; omega))
set_option maxRecDepth 100000 in
set_option maxHeartbeats 4000000 in
theorem stroke_pieces_any (ct : Ct) (A : Option Addr) (n c : Nat) (ps : List Ed) (m : Nat) (w : World) (hn : n ≤ 400) (h : Sl w 7 A n (eds ct.es)) (hps : piecesC ct = ps) (hm : ps.length = m) :
    Calls Try.prog 39 #[.agg #[.int .i64 ct.x, .int .i64 ct.y, .slice A n c, .bool ct.shut]] w
      fun e w' => ∃ (Ap : Option Addr) (cp : Nat), e = .returned (.slice Ap m cp) ∧ w'.ownsRow w.heap.size 68 7 (.slice Ap m cp) m (eds ps) ∧ Below w.heap.size w w' := by
  have hl := h.edlen
  have HL := Lib.hid hl
  have HPS := Lib.hid hps
  have HM := Lib.hid hm
  clear hl hps hm
  go_enter Try.func39, Try.ntmps39
  go_wp2
  obtain ⟨W1, hW1⟩ : ∃ W1 : World, W1 = w.alloc (.cells #[.int .i64 ct.x, .int .i64 ct.y, .slice A n c, .bool ct.shut] 62) := ⟨_, rfl⟩
  have hB1 : Below w.heap.size w W1 := by rw [hW1]; exact bal (Below.refl _ _) _
  have hbx : ∀ j, W1.cell? ⟨w.heap.size, j, none⟩ = (#[Value.int .i64 ct.x, Value.int .i64 ct.y, Value.slice A n c, Value.bool ct.shut] : Array Value)[j]? := fun j => by rw [hW1]; exact new_cell _ j
  have hz1 : w.heap.size < W1.heap.size := by rw [hW1]; simp
  have b0 : W1.cell? ⟨w.heap.size, 0, none⟩ = some (.int .i64 ct.x) := hbx 0
  have b1 : W1.cell? ⟨w.heap.size, 1, none⟩ = some (.int .i64 ct.y) := hbx 1
  have b2 : W1.cell? ⟨w.heap.size, 2, none⟩ = some (.slice A n c) := hbx 2
  have b3 : W1.cell? ⟨w.heap.size, 3, none⟩ = some (.bool ct.shut) := hbx 3
  have hse := h.below hB1
  rw [← hW1]
  clear hbx hW1 h
  go_quiet (fail)
  go_wp2
  go_loopw [3, 4, 5, 15] (fun os xs ys i wr => ∃ (k mm : Nat) (x y : Int) (A5 : Option Addr) (c5 : Nat), k ≤ n ∧ mm ≤ k ∧ os = .slice A5 mm c5 ∧ xs = .int .i64 x ∧ ys = .int .i64 y ∧ i = .int .i64 (k : Int) ∧ Below W1.heap.size W1 wr ∧
    wr.ownsRow W1.heap.size 68 7 (.slice A5 mm c5) mm (eds ((ct.es.take k).filter moved)) ∧ Hid (x = endX ct.x (ct.es.take k) ∧ y = endY ct.y (ct.es.take k))) (fun _ _ _ i _ => n - (intOf i).toNat)
  case atStart => exact ⟨0, 0, ct.x, ct.y, none, 0, by omega, by omega, rfl, rfl, rfl, rfl, bdrewN (Below.refl _ _) _, own_nil, rfl, rfl⟩
  case round =>
    obtain ⟨k, mm, x, y, A5, c5, hk, hmk, rfl, rfl, rfl, rfl, hbr, hown, hxy⟩ := hrel
    have x0 := (later_cell hbr hz1).trans b0
    have x1 := (later_cell hbr hz1).trans b1
    have x2 := (later_cell hbr hz1).trans b2
    have x3 := (later_cell hbr hz1).trans b3
    have hsi := hbr.size
    have hz2 : w.heap.size < wr.heap.size := by omega
    by_cases hlt : k < n
    · have hkl : k < ct.es.length := by rw [HL.out]; exact hlt
      obtain ⟨b, off, rfl, hb, e0, e1, e2, e3, e4, e5, e6⟩ := hse.ed k hlt hkl
      have hxt := endX_take ct.x ct.es k hkl
      have hyt := endY_take ct.y ct.es k hkl
      have hfi := filter_take ct.es k hkl
      obtain ⟨ed, hed⟩ : ∃ ed, ed = ct.es[k] := ⟨_, rfl⟩
      rw [← hed] at e0 e1 e2 e3 e4 e5 e6 hxt hyt hfi
      replace e0 := (later_cell hbr hb).trans e0
      replace e1 := (later_cell hbr hb).trans e1
      replace e2 := (later_cell hbr hb).trans e2
      replace e3 := (later_cell hbr hb).trans e3
      replace e4 := (later_cell hbr hb).trans e4
      replace e5 := (later_cell hbr hb).trans e5
      replace e6 := (later_cell hbr hb).trans e6
      have HX := Lib.hid hxt
      have HY := Lib.hid hyt
      have HFI := Lib.hid hfi
      clear hed hxt hyt hfi
      have hnc := fun j => new_cell (w := wr) (t := 68) #[.int .i64 ed.x0, .int .i64 ed.y0, .bool ed.bent, .int .i64 ed.cx, .int .i64 ed.cy, .int .i64 ed.x1, .int .i64 ed.y1] j
      cases hmv : moved ed
      · have hst : ed.x0 = ed.x1 ∧ ed.y0 = ed.y1 := moved_no hmv
        have q3 : (ed.x0 != ed.x1) = false := by simp [hst.1]
        have q4 : (ed.y0 != ed.y1) = false := by simp [hst.2]
        have q5 : (ed.x0 == ed.x1) = true := by simp [hst.1]
        have q6 : (ed.y0 == ed.y1) = true := by simp [hst.2]
        have hfe : eds ((ct.es.take (k + 1)).filter moved) = eds ((ct.es.take k).filter moved) := by rw [HFI.out]; simp [hmv]
        have HFE := Lib.hid hfe
        clear hmv hst hfe hnc
        go_wp2
        go_quiet (fail)
        go_wp2
        go_roundw
        case rel => exact ⟨k + 1, mm, ed.x1, ed.y1, A5, c5, by omega, by omega, rfl, rfl, rfl, by go_num, bdrewN (bal hbr _) _, by rw [HFE.out]; exact own_below hown (bdrewN (bal (Below.refl _ _) _) _), HX.out.symm, HY.out.symm⟩
        case measure => simp [intOf]; omega
      · have hst : ((ed.x0 != ed.x1) = true ∧ (ed.x0 == ed.x1) = false) ∨ (((ed.x0 != ed.x1) = false ∧ (ed.x0 == ed.x1) = true) ∧ (ed.y0 != ed.y1) = true ∧ (ed.y0 == ed.y1) = false) := by
          by_cases hx1 : ed.x0 = ed.x1
          · right
            simp only [moved, Bool.or_eq_true, Bool.not_eq_true', beq_eq_false_iff_ne, ne_eq] at hmv
            have : ed.y0 ≠ ed.y1 := by omega
            exact ⟨⟨by simp [hx1], by simp [hx1]⟩, by simpa using this, by simpa using this⟩
          · left; exact ⟨by simpa using hx1, by simpa using hx1⟩
        have hfe : eds ((ct.es.take (k + 1)).filter moved) = eds ((ct.es.take k).filter moved) ++ edc ed := by rw [HFI.out, ← eds_one, ← eds_app]; simp [hmv]
        have HFE := Lib.hid hfe
        clear hmv hfe
        rcases hst with ⟨q1, q0⟩ | ⟨⟨q1, q0⟩, q2, q3⟩
        · go_wp2_with (at_builtin; refine wpList_app rfl _ _ 56 rfl W1.heap.size edT2 rfl (own_below hown (by repeat (first | exact Below.refl _ _ | refine bal ?_ _ | refine bdrew ?_ | refine bdrewN ?_ _))) (edc ed) rfl (sl_newN _ (by simp) rfl) (oneCell_edc _) (by omega) (by have := hbr.size; simp; omega) ?_; intro A8 c8 w8 hown8 hg8 hat8)
          have hb8 := grown_below (btr hbr (by repeat (first | exact Below.refl _ _ | refine bal ?_ _ | refine bdrew ?_ | refine bdrewN ?_ _))) hg8 (own_below hown (by repeat (first | exact Below.refl _ _ | refine bal ?_ _ | refine bdrew ?_ | refine bdrewN ?_ _)))
          have hk8 := keep_new (g := wr.heap.size) hg8 (own_below hown (by repeat (first | exact Below.refl _ _ | refine bal ?_ _ | refine bdrew ?_ | refine bdrewN ?_ _))) (fun q hq => (hown.lt q hq).2) (by simp; omega)
          have k5 : w8.cell? ⟨wr.heap.size, 5, none⟩ = some (.int .i64 ed.x1) := (hk8 5).trans ((later_cell (bal (Below.refl _ _) _) (by simp)).trans (hnc 5))
          have k6 : w8.cell? ⟨wr.heap.size, 6, none⟩ = some (.int .i64 ed.y1) := (hk8 6).trans ((later_cell (bal (Below.refl _ _) _) (by simp)).trans (hnc 6))
          go_quiet (fail)
          go_wp2
          go_roundw
          case rel => exact ⟨k + 1, mm + 1, ed.x1, ed.y1, A8, c8, by omega, by omega, rfl, rfl, rfl, by go_num, bdrewN hb8 _, by rw [HFE.out]; exact own_below hown8 (bdrewN (Below.refl _ _) _), HX.out.symm, HY.out.symm⟩
          case measure => simp [intOf]; omega
        · go_wp2_with (at_builtin; refine wpList_app rfl _ _ 56 rfl W1.heap.size edT2 rfl (own_below hown (by repeat (first | exact Below.refl _ _ | refine bal ?_ _ | refine bdrew ?_ | refine bdrewN ?_ _))) (edc ed) rfl (sl_newN _ (by simp) rfl) (oneCell_edc _) (by omega) (by have := hbr.size; simp; omega) ?_; intro A8 c8 w8 hown8 hg8 hat8)
          have hb8 := grown_below (btr hbr (by repeat (first | exact Below.refl _ _ | refine bal ?_ _ | refine bdrew ?_ | refine bdrewN ?_ _))) hg8 (own_below hown (by repeat (first | exact Below.refl _ _ | refine bal ?_ _ | refine bdrew ?_ | refine bdrewN ?_ _)))
          have hk8 := keep_new (g := wr.heap.size) hg8 (own_below hown (by repeat (first | exact Below.refl _ _ | refine bal ?_ _ | refine bdrew ?_ | refine bdrewN ?_ _))) (fun q hq => (hown.lt q hq).2) (by simp; omega)
          have k5 : w8.cell? ⟨wr.heap.size, 5, none⟩ = some (.int .i64 ed.x1) := (hk8 5).trans ((later_cell (bal (Below.refl _ _) _) (by simp)).trans (hnc 5))
          have k6 : w8.cell? ⟨wr.heap.size, 6, none⟩ = some (.int .i64 ed.y1) := (hk8 6).trans ((later_cell (bal (Below.refl _ _) _) (by simp)).trans (hnc 6))
          go_quiet (fail)
          go_wp2
          go_roundw
          case rel => exact ⟨k + 1, mm + 1, ed.x1, ed.y1, A8, c8, by omega, by omega, rfl, rfl, rfl, by go_num, bdrewN hb8 _, by rw [HFE.out]; exact own_below hown8 (bdrewN (Below.refl _ _) _), HX.out.symm, HY.out.symm⟩
          case measure => simp [intOf]; omega
    · obtain rfl : k = n := by omega
      have htk : ct.es.take k = ct.es := List.take_of_length_le (by rw [HL.out]; omega)
      rw [htk] at hown
      have hxy2 : x = endX ct.x ct.es ∧ y = endY ct.y ct.es := by have := hxy.out; rwa [htk] at this
      have hml : (ct.es.filter moved).length = mm := (own_sl hown).edlen
      have hbe : backE ct = ⟨x, y, false, 0, 0, ct.x, ct.y⟩ := by unfold backE; rw [hxy2.1, hxy2.2]
      have HML := Lib.hid hml
      have HBE := Lib.hid hbe
      clear htk hxy hxy2 hml hbe
      cases hsm : (ct.shut && moved (backE ct))
      · have hpc : ps = ct.es.filter moved := by rw [← HPS.out]; unfold piecesC; rw [hsm]; simp
        have hcase : ct.shut = false ∨ (ct.shut = true ∧ ((x != ct.x) = false ∧ (x == ct.x) = true) ∧ ((y != ct.y) = false ∧ (y == ct.y) = true)) := by
          cases hsh : ct.shut
          · exact .inl rfl
          · right
            rw [hsh, HBE.out, Bool.true_and] at hsm
            simp only [moved, Bool.or_eq_false_iff, Bool.not_eq_false', beq_iff_eq] at hsm
            exact ⟨rfl, ⟨by simp [hsm.1], by simp [hsm.1]⟩, ⟨by simp [hsm.2], by simp [hsm.2]⟩⟩
        obtain rfl : mm = m := by rw [← HM.out, hpc]; exact HML.out.symm
        rw [← hpc] at hown
        clear hsm hpc
        rcases hcase with hsh | ⟨hsh, ⟨q1, q2⟩, q3, q4⟩
        · go_wp2
          go_ret
          exact ⟨A5, c5, rfl, own_mono hown hB1.size, btr hB1 hbr⟩
        · go_wp2
          go_ret
          exact ⟨A5, c5, rfl, own_mono hown hB1.size, btr hB1 hbr⟩
      · have hpc : ps = ct.es.filter moved ++ [backE ct] := by rw [← HPS.out]; unfold piecesC; rw [hsm]; simp
        have hsh : ct.shut = true := by cases hh : ct.shut <;> simp_all
        have hcase : ((x != ct.x) = true ∧ (x == ct.x) = false) ∨ (((x != ct.x) = false ∧ (x == ct.x) = true) ∧ (y != ct.y) = true ∧ (y == ct.y) = false) := by
          rw [hsh, HBE.out, Bool.true_and] at hsm
          simp only [moved, Bool.or_eq_true, Bool.not_eq_true', beq_eq_false_iff_ne, ne_eq] at hsm
          by_cases hx1 : x = ct.x
          · right
            have : y ≠ ct.y := by omega
            exact ⟨⟨by simp [hx1], by simp [hx1]⟩, by simpa using this, by simpa using this⟩
          · left; exact ⟨by simpa using hx1, by simpa using hx1⟩
        obtain rfl : mm + 1 = m := by rw [← HM.out, hpc, List.length_append, HML.out]; rfl
        have hpe : eds ps = eds (ct.es.filter moved) ++ edc ⟨x, y, false, 0, 0, ct.x, ct.y⟩ := by rw [hpc, HBE.out, eds_app, eds_one]
        have HPE := Lib.hid hpe
        clear hsm hpc hpe
        rcases hcase with ⟨q1, q0⟩ | ⟨⟨q1, q0⟩, q2, q3⟩
        · go_wp2_with (at_builtin; refine wpList_app rfl _ _ 56 rfl W1.heap.size edT2 rfl (own_below hown (bal (Below.refl _ _) _)) (edc ⟨x, y, false, 0, 0, ct.x, ct.y⟩) rfl (sl_newN _ (by simp) rfl) (oneCell_edc _) (by omega) (by have := hbr.size; simp; omega) ?_; intro A8 c8 w8 hown8 hg8 hat8)
          have hb8 := grown_below (bal hbr _) hg8 (own_below hown (bal (Below.refl _ _) _))
          go_ret
          exact ⟨A8, c8, rfl, own_mono (by rw [HPE.out]; exact hown8) hB1.size, btr hB1 hb8⟩
        · go_wp2_with (at_builtin; refine wpList_app rfl _ _ 56 rfl W1.heap.size edT2 rfl (own_below hown (bal (Below.refl _ _) _)) (edc ⟨x, y, false, 0, 0, ct.x, ct.y⟩) rfl (sl_newN _ (by simp) rfl) (oneCell_edc _) (by omega) (by have := hbr.size; simp; omega) ?_; intro A8 c8 w8 hown8 hg8 hat8)
          have hb8 := grown_below (bal hbr _) hg8 (own_below hown (bal (Below.refl _ _) _))
          go_ret
          exact ⟨A8, c8, rfl, own_mono (by rw [HPE.out]; exact hown8) hB1.size, btr hB1 hb8⟩
end Go.Proofs.Ytbpgehaflbacmaa
