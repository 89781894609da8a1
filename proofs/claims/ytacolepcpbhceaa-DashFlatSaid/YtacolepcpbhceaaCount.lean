/- flat.Count. -/
import Derived.Test.YtacolepcpbhceaaFlat
import Derived.Test.YtacolepcpbhceaaMay
namespace Go.Proofs.Ytacolepcpbhceaa
open Go.RowKit

theorem count_no (x0 y0 cx cy x1 y1 : Int) (bent : Bool) (w : World) (h : edOK ⟨x0, y0, bent, cx, cy, x1, y1⟩ = false) :
    Calls Try.prog 56 #[.agg #[.int .i64 x0, .int .i64 y0, .bool bent, .int .i64 cx, .int .i64 cy, .int .i64 x1, .int .i64 y1]] w
      fun e w' => e = .returned (.int .i64 (cntI ⟨x0, y0, bent, cx, cy, x1, y1⟩)) ∧ Below w.heap.size w w' := by
  go_enter Try.func56, Try.ntmps56
  go_wp2_with (go_at_call 68; refine (bow_May_any _ _ _ _ _ _ _ _).mono ?_; rintro e w' ⟨rfl, hb1⟩; obtain ⟨hc1, hf1⟩ := bcell hb1)
  go_ret
  exact ⟨ret_int (by rw [cntI_no h]), btr (bal (Below.refl _ _) _) hb1⟩

theorem count_flat (x0 y0 cx cy x1 y1 : Int) (w : World) (h : edOK ⟨x0, y0, false, cx, cy, x1, y1⟩ = true) :
    Calls Try.prog 56 #[.agg #[.int .i64 x0, .int .i64 y0, .bool false, .int .i64 cx, .int .i64 cy, .int .i64 x1, .int .i64 y1]] w
      fun e w' => e = .returned (.int .i64 (cntI ⟨x0, y0, false, cx, cy, x1, y1⟩)) ∧ Below w.heap.size w w' := by
  go_enter Try.func56, Try.ntmps56
  go_wp2_with (go_at_call 68; refine (bow_May_any _ _ _ _ _ _ _ _).mono ?_; rintro e w' ⟨rfl, hb1⟩; obtain ⟨hc1, hf1⟩ := bcell hb1)
  go_ret
  exact ⟨ret_int (by rw [cntI_flat h rfl]), btr (bal (Below.refl _ _) _) hb1⟩

set_option maxHeartbeats 400000 in
theorem count_yes (x0 y0 cx cy x1 y1 : Int) (w : World) (h : edOK ⟨x0, y0, true, cx, cy, x1, y1⟩ = true) :
    Calls Try.prog 56 #[.agg #[.int .i64 x0, .int .i64 y0, .bool true, .int .i64 cx, .int .i64 cy, .int .i64 x1, .int .i64 y1]] w
      fun e w' => e = .returned (.int .i64 (cntI ⟨x0, y0, true, cx, cy, x1, y1⟩)) ∧ Below w.heap.size w w' := by
  have hd := edOK_iff.1 h
  simp only at hd
  obtain ⟨⟨d1, d2⟩, ⟨d3, d4⟩, ⟨d5, d6⟩, ⟨d7, d8⟩, ⟨d9, d10⟩, ⟨d11, d12⟩, _⟩ := hd
  go_enter Try.func56, Try.ntmps56
  go_wp2_with (go_at_call 68; refine (bow_May_any _ _ _ _ _ _ _ _).mono ?_; rintro e w' ⟨rfl, hb1⟩; obtain ⟨hc1, hf1⟩ := bcell hb1)
  go_quiet ((go_at_call 69; exact quiet_left (size_any _ _ (by omega))))
  obtain ⟨far, hfar⟩ : ∃ far, far = (if sizeI (x0 - 2 * cx + x1) < sizeI (y0 - 2 * cy + y1) then sizeI (y0 - 2 * cy + y1) else sizeI (x0 - 2 * cx + x1)) := ⟨_, rfl⟩
  rw [← hfar]
  have hf2 : far = farI x0 y0 cx cy x1 y1 := by rw [hfar, farI]; split <;> omega
  have hf3 := farI_le h
  have hf4 : far ≤ 32764 := by omega
  have hcnt : cntI ⟨x0, y0, true, cx, cy, x1, y1⟩ = pw far := by rw [cntI_yes h rfl, hf2]
  have HC := Lib.hid hcnt
  clear hfar hf2 hf3 hcnt
  have hbw : Below w.heap.size w (w'.drewN nq) := bdrewN (btr (bal (Below.refl _ _) _) hb1) nq
  clear hb1 hc1 hf1
  go_wp2
  go_loop [4] (fun i => ∃ n : Int, i = .int .i64 n ∧ 1 ≤ n ∧ n ≤ 128 ∧ Hid ((n = 1 ∨ n = 2 ∨ n = 4 ∨ n = 8 ∨ n = 16 ∨ n = 32 ∨ n = 64 ∨ n = 128) ∧ n ≤ pw far)) (fun i => (128 - intOf i).toNat)
  case atStart => exact ⟨1, rfl, by omega, by omega, by simp, (pw_bd far).1⟩
  case round =>
    obtain ⟨n, rfl, hn1, hn2, hn3⟩ := hrel
    have hst := pw_step hn3.out.1 hf4 hn3.out.2
    have hnb := bd3 4 n n (by omega) (by omega) (by omega)
    obtain ⟨⟨e1, e2⟩, e3, e4⟩ := hnb
    obtain ⟨g1, g2⟩ := hst
    have G1 := Lib.hid g1
    have G2 := Lib.hid g2
    clear g1 g2
    by_cases ht : 4 * n * n < far
    · have hg := G1.out ht
      have HG := Lib.hid hg
      have hg2 : n * 2 ≤ 128 := by have := (pw_bd far).2; omega
      clear hg
      go_wp2
      go_round
      case rel => exact ⟨n * 2, rfl, by omega, by omega, HG.out⟩
      case measure => simp [intOf]; omega
    · go_wp2
      go_ret
      exact ⟨ret_int (by rw [HC.out, G2.out ht]), hbw⟩

theorem Count_any (x0 y0 cx cy x1 y1 : Int) (bent : Bool) (w : World) :
    Calls Try.prog 56 #[.agg #[.int .i64 x0, .int .i64 y0, .bool bent, .int .i64 cx, .int .i64 cy, .int .i64 x1, .int .i64 y1]] w
      fun e w' => e = .returned (.int .i64 (cntI ⟨x0, y0, bent, cx, cy, x1, y1⟩)) ∧ Below w.heap.size w w' := by
  rcases Bool.eq_false_or_eq_true (edOK ⟨x0, y0, bent, cx, cy, x1, y1⟩) with h | h
  · cases bent
    · exact count_flat _ _ _ _ _ _ _ h
    · exact count_yes _ _ _ _ _ _ _ h
  · exact count_no _ _ _ _ _ _ _ _ h

end Go.Proofs.Ytacolepcpbhceaa
