/- tympanref25.Lines, Seg, Flip. -/
import Derived.Test.YtpompbpdhahljaaRefFlat
namespace Go.Proofs.Ytpompbpdhahljaa
open Go.RowKit

set_option maxHeartbeats 400000 in
theorem ref_lines_no (x0 y0 cx cy x1 y1 : Int) (bent : Bool) (w : World) (h : edOK ⟨x0, y0, bent, cx, cy, x1, y1⟩ = false) :
    Calls Try.prog 26 #[.agg #[.int .i64 x0, .int .i64 y0, .bool bent, .int .i64 cx, .int .i64 cy, .int .i64 x1, .int .i64 y1]] w
      fun e w' => ∃ A c, e = .returned (.slice A (lns ⟨x0, y0, bent, cx, cy, x1, y1⟩).length c) ∧ w'.ownsRow w.heap.size 25 7 (.slice A (lns ⟨x0, y0, bent, cx, cy, x1, y1⟩).length c) (lns ⟨x0, y0, bent, cx, cy, x1, y1⟩).length (eds (lns ⟨x0, y0, bent, cx, cy, x1, y1⟩)) ∧ Below w.heap.size w w' := by
  rw [lns_no h]
  have hC := fun W => ref_Count_is x0 y0 cx cy x1 y1 0 bent W (cntI_no h)
  have HC := Lib.hid hC
  clear hC
  go_enter Try.func26, Try.ntmps26
  go_wp2_with (go_at_call 24; refine (HC.out _).mono ?_; rintro e w' ⟨rfl, hb1⟩; obtain ⟨hc1, hf1⟩ := bcell hb1)
  go_ret
  exact ⟨none, 0, rfl, own_nil, btr (bal (Below.refl _ _) _) hb1⟩

set_option maxHeartbeats 400000 in
theorem ref_lines_flat (x0 y0 cx cy x1 y1 : Int) (w : World) (h : edOK ⟨x0, y0, false, cx, cy, x1, y1⟩ = true) :
    Calls Try.prog 26 #[.agg #[.int .i64 x0, .int .i64 y0, .bool false, .int .i64 cx, .int .i64 cy, .int .i64 x1, .int .i64 y1]] w
      fun e w' => ∃ A c, e = .returned (.slice A (lns ⟨x0, y0, false, cx, cy, x1, y1⟩).length c) ∧ w'.ownsRow w.heap.size 25 7 (.slice A (lns ⟨x0, y0, false, cx, cy, x1, y1⟩).length c) (lns ⟨x0, y0, false, cx, cy, x1, y1⟩).length (eds (lns ⟨x0, y0, false, cx, cy, x1, y1⟩)) ∧ Below w.heap.size w w' := by
  rw [lns_flat h rfl]
  have hC := fun W => ref_Count_is x0 y0 cx cy x1 y1 1 false W (cntI_flat h rfl)
  have HC := Lib.hid hC
  clear hC
  go_enter Try.func26, Try.ntmps26
  go_wp2_with (go_at_call 24; refine (HC.out _).mono ?_; rintro e w' ⟨rfl, hb1⟩; obtain ⟨hc1, hf1⟩ := bcell hb1; have hz : w.heap.size < w'.heap.size := (by have := hb1.size; simp at this; omega))
  go_ret
  refine ⟨_, _, rfl, ?_, bal (btr (bal (Below.refl _ _) _) hb1) _⟩
  rw [eds_one]
  exact own_new (edc ⟨x0, y0, false, cx, cy, x1, y1⟩) (by simp) rfl (by omega) (by omega)

set_option maxHeartbeats 400000 in
theorem ref_lines_yes (x0 y0 cx cy x1 y1 : Int) (w : World) (h : edOK ⟨x0, y0, true, cx, cy, x1, y1⟩ = true) :
    Calls Try.prog 26 #[.agg #[.int .i64 x0, .int .i64 y0, .bool true, .int .i64 cx, .int .i64 cy, .int .i64 x1, .int .i64 y1]] w
      fun e w' => ∃ A c, e = .returned (.slice A (lns ⟨x0, y0, true, cx, cy, x1, y1⟩).length c) ∧ w'.ownsRow w.heap.size 25 7 (.slice A (lns ⟨x0, y0, true, cx, cy, x1, y1⟩).length c) (lns ⟨x0, y0, true, cx, cy, x1, y1⟩).length (eds (lns ⟨x0, y0, true, cx, cy, x1, y1⟩)) ∧ Below w.heap.size w w' := by
  obtain ⟨e, he⟩ : ∃ e : Ed, e = ⟨x0, y0, true, cx, cy, x1, y1⟩ := ⟨_, rfl⟩
  have hcb := cntI_bd h rfl
  obtain ⟨n, hn⟩ : ∃ n : Nat, cntI ⟨x0, y0, true, cx, cy, x1, y1⟩ = n := ⟨(cntI ⟨x0, y0, true, cx, cy, x1, y1⟩).toNat, by omega⟩
  have hn2 : 1 ≤ n ∧ n ≤ 128 := by omega
  obtain ⟨hn2, hn3⟩ := hn2
  have hl : lns ⟨x0, y0, true, cx, cy, x1, y1⟩ = lnsTo e n n := by rw [lns_yes h rfl, hn, he]; rfl
  rw [hl]
  have hC := fun W => ref_Count_is x0 y0 cx cy x1 y1 n true W hn
  have HC := Lib.hid hC
  have HE := Lib.hid he
  clear hC hn hl he hcb
  have hn0 : ((n : Int) == 0) = false := by simp; omega
  go_enter Try.func26, Try.ntmps26
  go_wp2_with (go_at_call 24; refine (HC.out _).mono ?_; rintro e w' ⟨rfl, hb1⟩; obtain ⟨hc1, hf1⟩ := bcell hb1; have hz : w.heap.size < w'.heap.size := (by have := hb1.size; simp at this; omega))
  go_quiet (fail)
  obtain ⟨w0, hw0⟩ : ∃ w0, w0 = w'.drewN nq := ⟨_, rfl⟩
  rw [← hw0]
  have B0 := bdrewN hb1 nq
  rw [← hw0] at B0
  have hz0 : w0.heap.size = w'.heap.size := by rw [hw0]; rfl
  have cE : ∀ i, w0.cell? ⟨w.heap.size, i, none⟩ = (edc ⟨x0, y0, true, cx, cy, x1, y1⟩)[i]? := fun i => by
    rw [later_cell B0 (by simp), new_cell]; simp [edc]
  have hbw : Below w.heap.size w w0 := btr (bal (Below.refl _ _) _) B0
  have hz1 : w.heap.size < w0.heap.size := by omega
  have CE := Lib.hid cE
  have HX := fun k => plcX_succ e n k
  have HY := fun k => plcY_succ e n k
  have HX' := Lib.hid HX
  have HY' := Lib.hid HY
  clear cE HX HY hw0 hz0 B0 hc1 hf1 hb1 hz
  go_wp2
  go_loopw [4, 5, 6, 7] (fun out x y i wr => ∃ k A c, k ≤ n ∧ out = .slice A k c ∧ x = .int .i64 (plcX e n k) ∧ y = .int .i64 (plcY e n k) ∧ i = .int .i64 ((k : Int) + 1) ∧ Below w0.heap.size w0 wr ∧
    wr.ownsRow w0.heap.size 25 7 (.slice A k c) k (eds (lnsTo e n k))) (fun _ _ _ i _ => n + 1 - (intOf i).toNat)
  case atStart => exact ⟨0, none, 0, by omega, rfl, by rw [HE.out]; rfl, by rw [HE.out]; rfl, rfl, Below.refl _ _, own_nil⟩
  case round =>
    obtain ⟨k, A, c, hk, rfl, rfl, rfl, rfl, hbr, hown⟩ := hrel
    have hsz := hbr.size
    by_cases hlt : k < n
    · have e0 : wr.cell? ⟨w.heap.size, 0, none⟩ = some (.int .i64 x0) := (later_cell hbr hz1).trans (CE.out 0)
      have e1 : wr.cell? ⟨w.heap.size, 1, none⟩ = some (.int .i64 y0) := (later_cell hbr hz1).trans (CE.out 1)
      have e2 : wr.cell? ⟨w.heap.size, 2, none⟩ = some (.bool true) := (later_cell hbr hz1).trans (CE.out 2)
      have e3 : wr.cell? ⟨w.heap.size, 3, none⟩ = some (.int .i64 cx) := (later_cell hbr hz1).trans (CE.out 3)
      have e4 : wr.cell? ⟨w.heap.size, 4, none⟩ = some (.int .i64 cy) := (later_cell hbr hz1).trans (CE.out 4)
      have e5 : wr.cell? ⟨w.heap.size, 5, none⟩ = some (.int .i64 x1) := (later_cell hbr hz1).trans (CE.out 5)
      have e6 : wr.cell? ⟨w.heap.size, 6, none⟩ = some (.int .i64 y1) := (later_cell hbr hz1).trans (CE.out 6)
      have hX := HX'.out k
      have hY := HY'.out k
      rw [HE.out] at hX hY
      simp only at hX hY
      rw [← HE.out] at hX hY
      have HX2 := Lib.hid hX
      have HY2 := Lib.hid hY
      clear hX hY
      go_wp2_with (first
        | (go_at_call 63; refine (ref_Place_is x0 y0 cx cy x1 y1 n (k + 1) _ _ true _ h (by omega) (by omega) HX2.out HY2.out).mono ?_; rintro e1 w1 ⟨rfl, hb2⟩)
        | (at_builtin; refine wpList_app rfl _ _ 30 rfl w0.heap.size edT rfl (own_below hown (bal (btr (Below.refl _ _) hb2) _)) (edc ⟨plcX e n k, plcY e n k, false, 0, 0, plcX e n (k + 1), plcY e n (k + 1)⟩) rfl (sl_newN _ (by simp) rfl) (oneCell_edc _) (by omega) (by have := hb2.size; simp; omega) ?_; intro A' c' w3 hown3 hg3 hat3))
      go_roundw
      case rel => exact ⟨k + 1, A', c', by omega, rfl, rfl, rfl, by go_num, grown_below (bal (btr hbr hb2) _) hg3 (own_below hown (bal (btr (Below.refl _ _) hb2) _)), by rw [lnsTo_snoc, eds_app, eds_one]; exact hown3⟩
      case measure => simp [intOf]; omega
    · obtain rfl : k = n := by omega
      go_wp2
      go_ret
      rw [lnsTo_len]
      exact ⟨A, c, rfl, own_mono hown (by omega), btr hbw hbr⟩

theorem ref_Lines_any (x0 y0 cx cy x1 y1 : Int) (bent : Bool) (l : List Ed) (w : World) (hl : lns ⟨x0, y0, bent, cx, cy, x1, y1⟩ = l) :
    Calls Try.prog 26 #[.agg #[.int .i64 x0, .int .i64 y0, .bool bent, .int .i64 cx, .int .i64 cy, .int .i64 x1, .int .i64 y1]] w
      fun e w' => ∃ A c, e = .returned (.slice A l.length c) ∧ w'.ownsRow w.heap.size 25 7 (.slice A l.length c) l.length (eds l) ∧ Below w.heap.size w w' := by
  subst hl
  rcases Bool.eq_false_or_eq_true (edOK ⟨x0, y0, bent, cx, cy, x1, y1⟩) with h | h
  · cases bent
    · exact ref_lines_flat _ _ _ _ _ _ _ h
    · exact ref_lines_yes _ _ _ _ _ _ _ h
  · exact ref_lines_no _ _ _ _ _ _ _ _ h

end Go.Proofs.Ytpompbpdhahljaa
