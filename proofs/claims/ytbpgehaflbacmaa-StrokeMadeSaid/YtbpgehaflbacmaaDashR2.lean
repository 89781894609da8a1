/- The reference's Pieces. -/
import Derived.Test.YtbpgehaflbacmaaDashR1
import Derived.Test.YtbpgehaflbacmaaDash4
import Derived.Test.YtbpgehaflbacmaaAllP
import Derived.Test.YtbpgehaflbacmaaRefCts
namespace Go.Proofs.Ytbpgehaflbacmaa
open Go.RowKit

/-- Is it a dot? -/
def isDot (c : Ct) : Bool := decide ((piecesC c).length = 0) && (c.shut || decide (0 < c.es.length))

set_option maxRecDepth 100000 in
set_option maxHeartbeats 4000000 in
theorem Pieces_any (ct : Ct) (A : Option Addr) (n c : Nat) (ps : List Ed) (m : Nat) (w : World) (hn : n ≤ 400) (h : Sl w 7 A n (eds ct.es)) (hgd : GoodC ct) (hps : piecesC ct = ps) (hm : ps.length = m) :
    Calls Try.prog 32 #[.agg #[.int .i64 ct.x, .int .i64 ct.y, .slice A n c, .bool ct.shut]] w
      fun e w' => ∃ (Ap : Option Addr) (cp : Nat), e = .returned (.tuple #[.slice Ap m cp, .bool (isDot ct)]) ∧ w'.ownsRow w.heap.size 68 7 (.slice Ap m cp) m (eds ps) ∧ Below w.heap.size w w' := by
  have hl := h.edlen
  have HGD := Lib.hid hgd
  have HL := Lib.hid hl
  have HPS := Lib.hid hps
  have HM := Lib.hid hm
  clear hgd hl hps hm
  go_enter Try.func32, Try.ntmps32
  go_wp2
  obtain ⟨W1, hW1⟩ : ∃ W1 : World, W1 = w.alloc (.cells #[.int .i64 ct.x, .int .i64 ct.y, .slice A n c, .bool ct.shut] 58) := ⟨_, rfl⟩
  have hB1 : Below w.heap.size w W1 := by rw [hW1]; exact bal (Below.refl _ _) _
  have hbx : ∀ j, W1.cell? ⟨w.heap.size, j, none⟩ = (#[Value.int .i64 ct.x, Value.int .i64 ct.y, Value.slice A n c, Value.bool ct.shut] : Array Value)[j]? := fun j => by rw [hW1]; exact new_cell _ j
  have hz1 : w.heap.size < W1.heap.size := by rw [hW1]; simp
  have b0 : W1.cell? ⟨w.heap.size, 0, none⟩ = some (.int .i64 ct.x) := hbx 0
  have b1 : W1.cell? ⟨w.heap.size, 1, none⟩ = some (.int .i64 ct.y) := hbx 1
  have b2 : W1.cell? ⟨w.heap.size, 2, none⟩ = some (.slice A n c) := hbx 2
  have b3 : W1.cell? ⟨w.heap.size, 3, none⟩ = some (.bool ct.shut) := hbx 3
  have hse := h.below hB1
  rw [← hW1]
  clear hbx hW1 h
  go_quiet (fail)
  go_wp2
  go_loopw [4, 5, 6, 7] (fun os xs ys i wr => ∃ (k mm : Nat) (x y : Int) (A5 : Option Addr) (c5 : Nat), k ≤ n ∧ mm ≤ k ∧ os = .slice A5 mm c5 ∧ xs = .int .i64 x ∧ ys = .int .i64 y ∧ i = .int .i64 (k : Int) ∧ Below W1.heap.size W1 wr ∧
    wr.ownsRow W1.heap.size 68 7 (.slice A5 mm c5) mm (eds ((ct.es.take k).filter moved)) ∧ Hid (x = endX ct.x (ct.es.take k) ∧ y = endY ct.y (ct.es.take k))) (fun _ _ _ i _ => n - (intOf i).toNat)
  case atStart => exact ⟨0, 0, ct.x, ct.y, none, 0, by omega, by omega, rfl, rfl, rfl, rfl, bdrewN (Below.refl _ _) _, own_nil, rfl, rfl⟩
  case round =>
    obtain ⟨k, mm, x, y, A5, c5, hk, hmk, rfl, rfl, rfl, rfl, hbr, hown, hxy⟩ := hrel
    have x0 := (later_cell hbr hz1).trans b0
    have x1 := (later_cell hbr hz1).trans b1
    have x2 := (later_cell hbr hz1).trans b2
    have x3 := (later_cell hbr hz1).trans b3
    have hsi := hbr.size
    have hz2 : w.heap.size < wr.heap.size := by omega
    by_cases hlt : k < n
    · have hkl : k < ct.es.length := by rw [HL.out]; exact hlt
      obtain ⟨b, off, rfl, hb, e0, e1, e2, e3, e4, e5, e6⟩ := hse.ed k hlt hkl
      obtain ⟨ch1, ch2⟩ := chain_at2 ct.es ct.x ct.y k hkl HGD.out.1
      rw [← hxy.out.1] at ch1
      rw [← hxy.out.2] at ch2
      have hxt := endX_take ct.x ct.es k hkl
      have hyt := endY_take ct.y ct.es k hkl
      have hfi := filter_take ct.es k hkl
      obtain ⟨ed, hed⟩ : ∃ ed, ed = ct.es[k] := ⟨_, rfl⟩
      rw [← hed] at e0 e1 e2 e3 e4 e5 e6 ch1 ch2 hxt hyt hfi
      replace e0 := (later_cell hbr hb).trans e0
      replace e1 := (later_cell hbr hb).trans e1
      replace e2 := (later_cell hbr hb).trans e2
      replace e3 := (later_cell hbr hb).trans e3
      replace e4 := (later_cell hbr hb).trans e4
      replace e5 := (later_cell hbr hb).trans e5
      replace e6 := (later_cell hbr hb).trans e6
      have HX := Lib.hid hxt
      have HY := Lib.hid hyt
      have HFI := Lib.hid hfi
      clear hed ch1 ch2 hxt hyt hfi
      have hnc := fun j => new_cell (w := wr) (t := 68) #[.int .i64 ed.x0, .int .i64 ed.y0, .bool ed.bent, .int .i64 ed.cx, .int .i64 ed.cy, .int .i64 ed.x1, .int .i64 ed.y1] j
      cases hmv : moved ed
      · have hst : ed.x0 = ed.x1 ∧ ed.y0 = ed.y1 := moved_no hmv
        have q1 : (ed.x0 == ed.x1) = true := by simp [hst.1]
        have q2 : (ed.y0 == ed.y1) = true := by simp [hst.2]
        have q3 : (ed.x0 != ed.x1) = false := by simp [hst.1]
        have q4 : (ed.y0 != ed.y1) = false := by simp [hst.2]
        have hfe : eds ((ct.es.take (k + 1)).filter moved) = eds ((ct.es.take k).filter moved) := by rw [HFI.out]; simp [hmv]
        have HFE := Lib.hid hfe
        clear hmv hst hfe hnc
        go_wp2
        go_quiet (fail)
        go_wp2
        go_roundw
        case rel => exact ⟨k + 1, mm, ed.x1, ed.y1, A5, c5, by omega, by omega, rfl, rfl, rfl, by go_num, bdrewN (bal hbr _) _, by rw [HFE.out]; exact own_below hown (bdrewN (bal (Below.refl _ _) _) _), HX.out.symm, HY.out.symm⟩
        case measure => simp [intOf]; omega
      · have hst : (ed.x0 != ed.x1) = true ∨ ((ed.x0 != ed.x1) = false ∧ (ed.y0 != ed.y1) = true) := by
          by_cases hx1 : ed.x0 = ed.x1
          · right
            refine ⟨by simp [hx1], ?_⟩
            simp only [moved, Bool.or_eq_true, Bool.not_eq_true', beq_eq_false_iff_ne, ne_eq] at hmv
            simp; omega
          · left; simpa using hx1
        have hfe : eds ((ct.es.take (k + 1)).filter moved) = eds ((ct.es.take k).filter moved) ++ edc ed := by rw [HFI.out, ← eds_one, ← eds_app]; simp [hmv]
        have HFE := Lib.hid hfe
        clear hmv hfe hnc
        rcases hst with q1 | ⟨q1, q2⟩
        · go_wp2
          go_quiet (fail)
          go_wp2_with (at_builtin; refine wpList_app rfl _ _ 56 rfl W1.heap.size edT2 rfl (own_below hown (by repeat (first | exact Below.refl _ _ | refine bal ?_ _ | refine bdrew ?_ | refine bdrewN ?_ _))) (edc ed) rfl (sl_newN _ (by simp) rfl) (oneCell_edc _) (by omega) (by have := hbr.size; simp; omega) ?_; intro A8 c8 w8 hown8 hg8 hat8)
          go_roundw
          case rel => exact ⟨k + 1, mm + 1, ed.x1, ed.y1, A8, c8, by omega, by omega, rfl, rfl, rfl, by go_num, grown_below (btr hbr (by repeat (first | exact Below.refl _ _ | refine bal ?_ _ | refine bdrew ?_ | refine bdrewN ?_ _))) hg8 (own_below hown (by repeat (first | exact Below.refl _ _ | refine bal ?_ _ | refine bdrew ?_ | refine bdrewN ?_ _))), by rw [HFE.out]; exact hown8, HX.out.symm, HY.out.symm⟩
          case measure => simp [intOf]; omega
        · go_wp2
          go_quiet (fail)
          go_wp2_with (at_builtin; refine wpList_app rfl _ _ 56 rfl W1.heap.size edT2 rfl (own_below hown (by repeat (first | exact Below.refl _ _ | refine bal ?_ _ | refine bdrew ?_ | refine bdrewN ?_ _))) (edc ed) rfl (sl_newN _ (by simp) rfl) (oneCell_edc _) (by omega) (by have := hbr.size; simp; omega) ?_; intro A8 c8 w8 hown8 hg8 hat8)
          go_roundw
          case rel => exact ⟨k + 1, mm + 1, ed.x1, ed.y1, A8, c8, by omega, by omega, rfl, rfl, rfl, by go_num, grown_below (btr hbr (by repeat (first | exact Below.refl _ _ | refine bal ?_ _ | refine bdrew ?_ | refine bdrewN ?_ _))) hg8 (own_below hown (by repeat (first | exact Below.refl _ _ | refine bal ?_ _ | refine bdrew ?_ | refine bdrewN ?_ _))), by rw [HFE.out]; exact hown8, HX.out.symm, HY.out.symm⟩
          case measure => simp [intOf]; omega
    · obtain rfl : k = n := by omega
      have htk : ct.es.take k = ct.es := List.take_of_length_le (by rw [HL.out]; omega)
      rw [htk] at hown
      have hxy2 : x = endX ct.x ct.es ∧ y = endY ct.y ct.es := by have := hxy.out; rwa [htk] at this
      have hml : (ct.es.filter moved).length = mm := (own_sl hown).edlen
      have hbe : backE ct = ⟨x, y, false, 0, 0, ct.x, ct.y⟩ := by unfold backE; rw [hxy2.1, hxy2.2]
      have HML := Lib.hid hml
      have HBE := Lib.hid hbe
      clear htk hxy hxy2 hml hbe
      cases hsm : (ct.shut && moved (backE ct))
      · have hpc : ps = ct.es.filter moved := by rw [← HPS.out]; unfold piecesC; rw [hsm]; simp
        have hcase : ct.shut = false ∨ (ct.shut = true ∧ (x != ct.x) = false ∧ (y != ct.y) = false) := by
          cases hsh : ct.shut
          · exact .inl rfl
          · right
            rw [hsh, HBE.out, Bool.true_and] at hsm
            simp only [moved, Bool.or_eq_false_iff, Bool.not_eq_false', beq_iff_eq] at hsm
            exact ⟨rfl, by simp [hsm.1], by simp [hsm.2]⟩
        obtain rfl : mm = m := by rw [← HM.out, hpc]; exact HML.out.symm
        rw [← hpc] at hown
        have hdot : isDot ct = (decide (mm = 0) && (ct.shut || decide (0 < k))) := by unfold isDot; rw [HPS.out, HM.out, HL.out]
        have HD := Lib.hid hdot
        clear hsm hpc hdot
        by_cases h0 : mm = 0
        · subst h0
          rcases hcase with hsh | ⟨hsh, q1, q2⟩
          · by_cases hk0 : 0 < k
            · have hd1 : decide (0 < k) = true := by simp [hk0]
              have hd2 : decide (0 < (k : Int)) = true := by simp [hk0]
              have hdd : isDot ct = true := by rw [HD.out, hsh, hd1]; rfl
              have HDD := Lib.hid hdd
              clear hdd
              go_wp2
              go_quiet (fail)
              go_wp2
              go_ret2
              exact ⟨A5, c5, by rw [HDD.out]; rfl, own_mono (own_below hown (bdrewN (Below.refl _ _) _)) hB1.size, bdrewN (btr hB1 hbr) _⟩
            · have hd1 : decide (0 < k) = false := by simp; omega
              have hd2 : decide (0 < (k : Int)) = false := by simp; omega
              have hdd : isDot ct = false := by rw [HD.out, hsh, hd1]; rfl
              have HDD := Lib.hid hdd
              clear hdd
              go_wp2
              go_quiet (fail)
              go_wp2
              go_ret2
              exact ⟨A5, c5, by rw [HDD.out]; rfl, own_mono (own_below hown (bdrewN (Below.refl _ _) _)) hB1.size, bdrewN (btr hB1 hbr) _⟩
          · have hdd : isDot ct = true := by rw [HD.out, hsh]; rfl
            have HDD := Lib.hid hdd
            clear hdd
            go_wp2
            go_quiet (fail)
            go_wp2
            go_ret2
            exact ⟨A5, c5, by rw [HDD.out]; rfl, own_mono (own_below hown (bdrewN (Below.refl _ _) _)) hB1.size, bdrewN (btr hB1 hbr) _⟩
        · have hm0 : ((mm : Int) == 0) = false := by simp; omega
          have hm1 : (mm == 0) = false := by simp; omega
          have hdd : isDot ct = false := by rw [HD.out]; simp [h0]
          clear h0
          rcases hcase with hsh | ⟨hsh, q1, q2⟩
          · have HDD := Lib.hid hdd
            clear hdd
            go_wp2
            go_quiet (fail)
            go_wp2
            go_ret2
            exact ⟨A5, c5, by rw [HDD.out]; rfl, own_mono (own_below hown (bdrewN (Below.refl _ _) _)) hB1.size, bdrewN (btr hB1 hbr) _⟩
          · have HDD := Lib.hid hdd
            clear hdd
            go_wp2
            go_quiet (fail)
            go_wp2
            go_ret2
            exact ⟨A5, c5, by rw [HDD.out]; rfl, own_mono (own_below hown (bdrewN (Below.refl _ _) _)) hB1.size, bdrewN (btr hB1 hbr) _⟩
      · have hpc : ps = ct.es.filter moved ++ [backE ct] := by rw [← HPS.out]; unfold piecesC; rw [hsm]; simp
        have hsh : ct.shut = true := by cases hh : ct.shut <;> simp_all
        have hcase : (x != ct.x) = true ∨ ((x != ct.x) = false ∧ (y != ct.y) = true) := by
          rw [hsh, HBE.out, Bool.true_and] at hsm
          simp only [moved, Bool.or_eq_true, Bool.not_eq_true', beq_eq_false_iff_ne, ne_eq] at hsm
          by_cases hx1 : x = ct.x
          · right; exact ⟨by simp [hx1], by simp; omega⟩
          · left; simpa using hx1
        obtain rfl : mm + 1 = m := by rw [← HM.out, hpc, List.length_append, HML.out]; rfl
        have hdd : isDot ct = false := by unfold isDot; rw [HPS.out, HM.out]; simp
        have hpe : eds ps = eds (ct.es.filter moved) ++ edc ⟨x, y, false, 0, 0, ct.x, ct.y⟩ := by rw [hpc, HBE.out, eds_app, eds_one]
        have HPE := Lib.hid hpe
        have HDD := Lib.hid hdd
        have hm0 : (((mm + 1 : Nat) : Int) == 0) = false := by simp; omega
        have hm1 : (mm + 1 == 0) = false := by simp
        have hm2 : ((mm : Int) + 1 == 0) = false := by simp; omega
        clear hsm hpc hdd hpe
        rcases hcase with q1 | ⟨q1, q2⟩
        · go_wp2_with (at_builtin; refine wpList_app rfl _ _ 56 rfl W1.heap.size edT2 rfl (own_below hown (bal (Below.refl _ _) _)) (edc ⟨x, y, false, 0, 0, ct.x, ct.y⟩) rfl (sl_newN _ (by simp) rfl) (oneCell_edc _) (by omega) (by have := hbr.size; simp; omega) ?_; intro A8 c8 w8 hown8 hg8 hat8)
          have hb8 := grown_below (bal hbr _) hg8 (own_below hown (bal (Below.refl _ _) _))
          go_quiet (fail)
          go_wp2
          go_ret2
          exact ⟨A8, c8, by rw [HDD.out]; rfl, own_mono (own_below (by rw [HPE.out]; exact hown8) (bdrewN (Below.refl _ _) _)) hB1.size, bdrewN (btr hB1 hb8) _⟩
        · go_wp2_with (at_builtin; refine wpList_app rfl _ _ 56 rfl W1.heap.size edT2 rfl (own_below hown (bal (Below.refl _ _) _)) (edc ⟨x, y, false, 0, 0, ct.x, ct.y⟩) rfl (sl_newN _ (by simp) rfl) (oneCell_edc _) (by omega) (by have := hbr.size; simp; omega) ?_; intro A8 c8 w8 hown8 hg8 hat8)
          have hb8 := grown_below (bal hbr _) hg8 (own_below hown (bal (Below.refl _ _) _))
          go_quiet (fail)
          go_wp2
          go_ret2
          exact ⟨A8, c8, by rw [HDD.out]; rfl, own_mono (own_below (by rw [HPE.out]; exact hown8) (bdrewN (Below.refl _ _) _)) hB1.size, bdrewN (btr hB1 hb8) _⟩

end Go.Proofs.Ytbpgehaflbacmaa
