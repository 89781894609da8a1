/- flat.Count. -/
import Derived.Test.YtdfkbbcoolgfiaaGreatMNum
import Derived.Test.YtdfkbbcoolgfiaaGreatMMay
namespace Go.Proofs.YtdfkbbcoolgfiaaGreat
open Go.RowKit

theorem count_no (x0 y0 cx cy x1 y1 : Int) (bent : Bool) (w : World) (h : edOK ⟨x0, y0, bent, cx, cy, x1, y1⟩ = false) :
    Calls Tryz.prog 118 #[.agg #[.int .i64 x0, .int .i64 y0, .bool bent, .int .i64 cx, .int .i64 cy, .int .i64 x1, .int .i64 y1]] w
      fun e w' => e = .returned (.int .i64 (cntI ⟨x0, y0, bent, cx, cy, x1, y1⟩)) ∧ Below w.heap.size w w' := by
  go_enter Tryz.func118, Tryz.ntmps118
  go_wp2_with (go_at_call 153; refine (bow_May_any _ _ _ _ _ _ _ _).mono ?_; rintro e w' ⟨rfl, hb1⟩; obtain ⟨hc1, hf1⟩ := bcell hb1)
  go_ret
  exact ⟨ret_int (by rw [cntI_no h]), btr (bal (Below.refl _ _) _) hb1⟩

theorem count_flat (x0 y0 cx cy x1 y1 : Int) (w : World) (h : edOK ⟨x0, y0, false, cx, cy, x1, y1⟩ = true) :
    Calls Tryz.prog 118 #[.agg #[.int .i64 x0, .int .i64 y0, .bool false, .int .i64 cx, .int .i64 cy, .int .i64 x1, .int .i64 y1]] w
      fun e w' => e = .returned (.int .i64 (cntI ⟨x0, y0, false, cx, cy, x1, y1⟩)) ∧ Below w.heap.size w w' := by
  go_enter Tryz.func118, Tryz.ntmps118
  go_wp2_with (go_at_call 153; refine (bow_May_any _ _ _ _ _ _ _ _).mono ?_; rintro e w' ⟨rfl, hb1⟩; obtain ⟨hc1, hf1⟩ := bcell hb1)
  go_ret
  exact ⟨ret_int (by rw [cntI_flat h rfl]), btr (bal (Below.refl _ _) _) hb1⟩

set_option maxHeartbeats 400000 in
theorem count_yes (x0 y0 cx cy x1 y1 : Int) (w : World) (h : edOK ⟨x0, y0, true, cx, cy, x1, y1⟩ = true) :
    Calls Tryz.prog 118 #[.agg #[.int .i64 x0, .int .i64 y0, .bool true, .int .i64 cx, .int .i64 cy, .int .i64 x1, .int .i64 y1]] w
      fun e w' => e = .returned (.int .i64 (cntI ⟨x0, y0, true, cx, cy, x1, y1⟩)) ∧ Below w.heap.size w w' := by
  have hd := edOK_iff.1 h
  simp only at hd
  obtain ⟨⟨d1, d2⟩, ⟨d3, d4⟩, ⟨d5, d6⟩, ⟨d7, d8⟩, ⟨d9, d10⟩, ⟨d11, d12⟩, _⟩ := hd
  go_enter Tryz.func118, Tryz.ntmps118
  go_wp2_with (go_at_call 153; refine (bow_May_any _ _ _ _ _ _ _ _).mono ?_; rintro e w' ⟨rfl, hb1⟩; obtain ⟨hc1, hf1⟩ := bcell hb1)
  go_quiet ((go_at_call 154; exact quiet_left (size_any _ _ (by omega))))
  obtain ⟨far, hfar⟩ : ∃ far, far = (if sizeI (x0 - 2 * cx + x1) < sizeI (y0 - 2 * cy + y1) then sizeI (y0 - 2 * cy + y1) else sizeI (x0 - 2 * cx + x1)) := ⟨_, rfl⟩
  rw [← hfar]
  have hf2 : far = farI x0 y0 cx cy x1 y1 := by rw [hfar, farI]; split <;> omega
  have hf3 := farI_le h
  have hf4 : far ≤ 32764 := by omega
  have hcnt : cntI ⟨x0, y0, true, cx, cy, x1, y1⟩ = pw far := by rw [cntI_yes h rfl, hf2]
  have HC := Lib.hid hcnt
  clear hfar hf2 hf3 hcnt
  have hbw : Below w.heap.size w (w'.drewN nq) := bdrewN (btr (bal (Below.refl _ _) _) hb1) nq
  clear hb1 hc1 hf1
  go_wp2
  go_loop [4] (fun i => ∃ n : Int, i = .int .i64 n ∧ 1 ≤ n ∧ n ≤ 128 ∧ Hid ((n = 1 ∨ n = 2 ∨ n = 4 ∨ n = 8 ∨ n = 16 ∨ n = 32 ∨ n = 64 ∨ n = 128) ∧ n ≤ pw far)) (fun i => (128 - intOf i).toNat)
  case atStart => exact ⟨1, rfl, by omega, by omega, by simp, (pw_bd far).1⟩
  case round =>
    obtain ⟨n, rfl, hn1, hn2, hn3⟩ := hrel
    have hst := pw_step hn3.out.1 hf4 hn3.out.2
    have hnb := bd3 4 n n (by omega) (by omega) (by omega)
    obtain ⟨⟨e1, e2⟩, e3, e4⟩ := hnb
    obtain ⟨g1, g2⟩ := hst
    have G1 := Lib.hid g1
    have G2 := Lib.hid g2
    clear g1 g2
    by_cases ht : 4 * n * n < far
    · have hg := G1.out ht
      have HG := Lib.hid hg
      have hg2 : n * 2 ≤ 128 := by have := (pw_bd far).2; omega
      clear hg
      go_wp2
      go_round
      case rel => exact ⟨n * 2, rfl, by omega, by omega, HG.out⟩
      case measure => simp [intOf]; omega
    · go_wp2
      go_ret
      exact ⟨ret_int (by rw [HC.out, G2.out ht]), hbw⟩

theorem Count_any (x0 y0 cx cy x1 y1 : Int) (bent : Bool) (w : World) :
    Calls Tryz.prog 118 #[.agg #[.int .i64 x0, .int .i64 y0, .bool bent, .int .i64 cx, .int .i64 cy, .int .i64 x1, .int .i64 y1]] w
      fun e w' => e = .returned (.int .i64 (cntI ⟨x0, y0, bent, cx, cy, x1, y1⟩)) ∧ Below w.heap.size w w' := by
  rcases Bool.eq_false_or_eq_true (edOK ⟨x0, y0, bent, cx, cy, x1, y1⟩) with h | h
  · cases bent
    · exact count_flat _ _ _ _ _ _ _ h
    · exact count_yes _ _ _ _ _ _ _ h
  · exact count_no _ _ _ _ _ _ _ _ h

end Go.Proofs.YtdfkbbcoolgfiaaGreat

namespace Go.Proofs.YtdfkbbcoolgfiaaGreat
open Go.RowKit

set_option maxHeartbeats 800000 in
theorem place_any (x0 y0 cx cy x1 y1 n k : Int) (bent : Bool) (gn ge : Nat) (w : World)
    (h : edOK ⟨x0, y0, bent, cx, cy, x1, y1⟩ = true) (hn : 1 ≤ n ∧ n ≤ 128) (hk : 0 ≤ k ∧ k ≤ n)
    (cn : w.cell? ⟨gn, 0, none⟩ = some (.int .i64 n)) (c0 : w.cell? ⟨ge, 0, none⟩ = some (.int .i64 x0)) (c1 : w.cell? ⟨ge, 1, none⟩ = some (.int .i64 y0))
    (c3 : w.cell? ⟨ge, 3, none⟩ = some (.int .i64 cx)) (c4 : w.cell? ⟨ge, 4, none⟩ = some (.int .i64 cy)) (c5 : w.cell? ⟨ge, 5, none⟩ = some (.int .i64 x1)) (c6 : w.cell? ⟨ge, 6, none⟩ = some (.int .i64 y1)) :
    Calls Tryz.prog 119 #[.int .i64 k, .pointer (some ⟨gn, 0, none⟩), .pointer (some ⟨ge, 0, none⟩)] w
      fun e w' => e = .returned (.tuple #[.int .i64 (plc1 x0 cx x1 k n), .int .i64 (plc1 y0 cy y1 k n)]) ∧ ∃ m, w.drewN m = w' := by
  have hd := edOK_iff.1 h
  simp only at hd
  obtain ⟨d1, d3, d5, d7, d9, d11, _⟩ := hd
  obtain ⟨⟨p1, p2⟩, p3, p4⟩ := bd3 x0 (n - k) (n - k) d1 (by omega) (by omega)
  obtain ⟨⟨q1, q2⟩, q3, q4⟩ := bd3 y0 (n - k) (n - k) d3 (by omega) (by omega)
  obtain ⟨⟨r1, r2⟩, r3, r4⟩ := bd3 x1 k k d9 (by omega) (by omega)
  obtain ⟨⟨s1, s2⟩, s3, s4⟩ := bd3 y1 k k d11 (by omega) (by omega)
  have t1 := mul_bd (A := 16382) (B := 128) (a := 2 * cx) (b := k) (by omega) (by omega)
  have t2 := mul_bd (A := 2096896) (B := 128) (a := 2 * cx * k) (b := n - k) (by omega) (by omega)
  have u1 := mul_bd (A := 16382) (B := 128) (a := 2 * cy) (b := k) (by omega) (by omega)
  have u2 := mul_bd (A := 2096896) (B := 128) (a := 2 * cy * k) (b := n - k) (by omega) (by omega)
  have v1 : 1 ≤ n * n ∧ n * n ≤ 16384 := by
    have a1 : 1 * n ≤ n * n := Int.mul_le_mul_of_nonneg_right hn.1 (by omega)
    have a2 : n * n ≤ 128 * n := Int.mul_le_mul_of_nonneg_right hn.2 (by omega)
    omega
  obtain ⟨t11, t12⟩ := t1
  obtain ⟨t21, t22⟩ := t2
  obtain ⟨u11, u12⟩ := u1
  obtain ⟨u21, u22⟩ := u2
  obtain ⟨v11, v12⟩ := v1
  obtain ⟨d1, d2⟩ := d1
  obtain ⟨d3, d4⟩ := d3
  obtain ⟨d5, d6⟩ := d5
  obtain ⟨d7, d8⟩ := d7
  obtain ⟨d9, d10⟩ := d9
  obtain ⟨d11, d12⟩ := d11
  obtain ⟨hn1, hn2⟩ := hn
  obtain ⟨hk1, hk2⟩ := hk
  go_enter Tryz.func119, Tryz.ntmps119
  go_wp2
  go_quiet ((go_at_call 120; exact quiet_left (over_any _ _ _ (by omega) (by omega))))
  go_wp2
  go_ret2
  exact ⟨rfl, nq, rfl⟩

theorem Count_is (x0 y0 cx cy x1 y1 n : Int) (bent : Bool) (w : World) (hn : cntI ⟨x0, y0, bent, cx, cy, x1, y1⟩ = n) :
    Calls Tryz.prog 118 #[.agg #[.int .i64 x0, .int .i64 y0, .bool bent, .int .i64 cx, .int .i64 cy, .int .i64 x1, .int .i64 y1]] w
      fun e w' => e = .returned (.int .i64 n) ∧ Below w.heap.size w w' := hn ▸ Count_any x0 y0 cx cy x1 y1 bent w

theorem place_is (x0 y0 cx cy x1 y1 n k X Y : Int) (bent : Bool) (gn ge : Nat) (w : World)
    (h : edOK ⟨x0, y0, bent, cx, cy, x1, y1⟩ = true) (hn : 1 ≤ n ∧ n ≤ 128) (hk : 0 ≤ k ∧ k ≤ n) (hX : plc1 x0 cx x1 k n = X) (hY : plc1 y0 cy y1 k n = Y)
    (cn : w.cell? ⟨gn, 0, none⟩ = some (.int .i64 n)) (cs : ∀ i, w.cell? ⟨ge, i, none⟩ = (edc ⟨x0, y0, bent, cx, cy, x1, y1⟩)[i]?) :
    Calls Tryz.prog 119 #[.int .i64 k, .pointer (some ⟨gn, 0, none⟩), .pointer (some ⟨ge, 0, none⟩)] w
      fun e w' => e = .returned (.tuple #[.int .i64 X, .int .i64 Y]) ∧ ∃ m, w.drewN m = w' := by
  subst hX; subst hY
  exact place_any x0 y0 cx cy x1 y1 n k bent gn ge w h hn hk cn (cs 0) (cs 1) (cs 3) (cs 4) (cs 5) (cs 6)
theorem plcX_succ (e : Ed) (n : Int) (k : Nat) : plc1 e.x0 e.cx e.x1 ((k : Int) + 1) n = plcX e n (k + 1) := by simp [plcX]
theorem plcY_succ (e : Ed) (n : Int) (k : Nat) : plc1 e.y0 e.cy e.y1 ((k : Int) + 1) n = plcY e n (k + 1) := by simp [plcY]

theorem edT : SlT Tryz.prog 109 112 7 56 := slT_of Tryz.underlying109 (by kernel_rfl) (by omega) (by omega)
theorem sgT : SlT Tryz.prog 24 63 5 40 := slT_of Tryz.underlying24 (by kernel_rfl) (by omega) (by omega)

set_option maxHeartbeats 400000 in
theorem edges_no (x0 y0 cx cy x1 y1 : Int) (bent : Bool) (w : World) (h : edOK ⟨x0, y0, bent, cx, cy, x1, y1⟩ = false) :
    Calls Tryz.prog 67 #[.agg #[.int .i64 x0, .int .i64 y0, .bool bent, .int .i64 cx, .int .i64 cy, .int .i64 x1, .int .i64 y1]] w
      fun e w' => ∃ A c, e = .returned (.slice A (lns ⟨x0, y0, bent, cx, cy, x1, y1⟩).length c) ∧ w'.ownsRow w.heap.size 112 7 (.slice A (lns ⟨x0, y0, bent, cx, cy, x1, y1⟩).length c) (lns ⟨x0, y0, bent, cx, cy, x1, y1⟩).length (eds (lns ⟨x0, y0, bent, cx, cy, x1, y1⟩)) ∧ Below w.heap.size w w' := by
  rw [lns_no h]
  have hC := fun W => Count_is x0 y0 cx cy x1 y1 0 bent W (cntI_no h)
  have HC := Lib.hid hC
  clear hC
  go_enter Tryz.func67, Tryz.ntmps67
  go_wp2_with (go_at_call 118; refine (HC.out _).mono ?_; rintro e w' ⟨rfl, hb1⟩; obtain ⟨hc1, hf1⟩ := bcell hb1)
  go_ret
  exact ⟨none, 0, rfl, own_nil, bal (btr (bal (Below.refl _ _) _) hb1) _⟩

set_option maxHeartbeats 400000 in
theorem edges_flat (x0 y0 cx cy x1 y1 : Int) (w : World) (h : edOK ⟨x0, y0, false, cx, cy, x1, y1⟩ = true) :
    Calls Tryz.prog 67 #[.agg #[.int .i64 x0, .int .i64 y0, .bool false, .int .i64 cx, .int .i64 cy, .int .i64 x1, .int .i64 y1]] w
      fun e w' => ∃ A c, e = .returned (.slice A (lns ⟨x0, y0, false, cx, cy, x1, y1⟩).length c) ∧ w'.ownsRow w.heap.size 112 7 (.slice A (lns ⟨x0, y0, false, cx, cy, x1, y1⟩).length c) (lns ⟨x0, y0, false, cx, cy, x1, y1⟩).length (eds (lns ⟨x0, y0, false, cx, cy, x1, y1⟩)) ∧ Below w.heap.size w w' := by
  rw [lns_flat h rfl]
  have hC := fun W => Count_is x0 y0 cx cy x1 y1 1 false W (cntI_flat h rfl)
  have HC := Lib.hid hC
  clear hC
  go_enter Tryz.func67, Tryz.ntmps67
  go_wp2_with (go_at_call 118; refine (HC.out _).mono ?_; rintro e w' ⟨rfl, hb1⟩; obtain ⟨hc1, hf1⟩ := bcell hb1; have hz : w.heap.size < w'.heap.size := (by have := hb1.size; simp at this; omega))
  go_ret
  refine ⟨_, _, rfl, ?_, bal (bal (btr (bal (Below.refl _ _) _) hb1) _) _⟩
  rw [eds_one]
  exact own_new (edc ⟨x0, y0, false, cx, cy, x1, y1⟩) (by simp) rfl (by omega) (by omega)

set_option maxHeartbeats 400000 in
theorem edges_yes (x0 y0 cx cy x1 y1 : Int) (w : World) (h : edOK ⟨x0, y0, true, cx, cy, x1, y1⟩ = true) :
    Calls Tryz.prog 67 #[.agg #[.int .i64 x0, .int .i64 y0, .bool true, .int .i64 cx, .int .i64 cy, .int .i64 x1, .int .i64 y1]] w
      fun e w' => ∃ A c, e = .returned (.slice A (lns ⟨x0, y0, true, cx, cy, x1, y1⟩).length c) ∧ w'.ownsRow w.heap.size 112 7 (.slice A (lns ⟨x0, y0, true, cx, cy, x1, y1⟩).length c) (lns ⟨x0, y0, true, cx, cy, x1, y1⟩).length (eds (lns ⟨x0, y0, true, cx, cy, x1, y1⟩)) ∧ Below w.heap.size w w' := by
  obtain ⟨e, he⟩ : ∃ e : Ed, e = ⟨x0, y0, true, cx, cy, x1, y1⟩ := ⟨_, rfl⟩
  have hcb := cntI_bd h rfl
  obtain ⟨n, hn⟩ : ∃ n : Nat, cntI ⟨x0, y0, true, cx, cy, x1, y1⟩ = n := ⟨(cntI ⟨x0, y0, true, cx, cy, x1, y1⟩).toNat, by omega⟩
  have hn2 : 1 ≤ n ∧ n ≤ 128 := by omega
  obtain ⟨hn2, hn3⟩ := hn2
  have hl : lns ⟨x0, y0, true, cx, cy, x1, y1⟩ = lnsTo e n n := by rw [lns_yes h rfl, hn, he]; rfl
  rw [hl]
  have hC := fun W => Count_is x0 y0 cx cy x1 y1 n true W hn
  have HC := Lib.hid hC
  have HE := Lib.hid he
  clear hC hn hl he hcb
  have hn0 : ((n : Int) == 0) = false := by simp; omega
  go_enter Tryz.func67, Tryz.ntmps67
  go_wp2_with (go_at_call 118; refine (HC.out _).mono ?_; rintro e w' ⟨rfl, hb1⟩; obtain ⟨hc1, hf1⟩ := bcell hb1; have hz : w.heap.size < w'.heap.size := (by have := hb1.size; simp at this; omega))
  go_quiet (fail)
  obtain ⟨w0, hw0⟩ : ∃ w0, w0 = (w'.alloc (.cells #[.int .i64 ↑n] 3)).drewN nq := ⟨_, rfl⟩
  rw [← hw0]
  have B0 := bdrewN (bal hb1 (.cells #[.int .i64 (n : Int)] 3)) nq
  rw [← hw0] at B0
  have hz0 : w0.heap.size = w'.heap.size + 1 := by rw [hw0]; simp
  have cN : w0.cell? ⟨w'.heap.size, 0, none⟩ = some (.int .i64 n) := by rw [hw0]; exact new_cell _ 0
  have cE : ∀ i, w0.cell? ⟨w.heap.size, i, none⟩ = (edc ⟨x0, y0, true, cx, cy, x1, y1⟩)[i]? := fun i => by
    rw [later_cell B0 (by simp), new_cell]; simp [edc]
  have hbw : Below w.heap.size w w0 := btr (bal (Below.refl _ _) _) B0
  have hzz : w.heap.size < w0.heap.size ∧ w'.heap.size < w0.heap.size := by omega
  obtain ⟨hz1, hz2⟩ := hzz
  have CN := Lib.hid cN
  have CE := Lib.hid cE
  have HX := fun k => plcX_succ e n k
  have HY := fun k => plcY_succ e n k
  have HX' := Lib.hid HX
  have HY' := Lib.hid HY
  clear cE HX HY hw0 hz0 B0 hc1 hf1 hb1
  go_wp2
  go_loopw [5, 6, 7, 26] (fun out x y i wr => ∃ k A c, k ≤ n ∧ out = .slice A k c ∧ x = .int .i64 (plcX e n k) ∧ y = .int .i64 (plcY e n k) ∧ i = .int .i64 (k : Int) ∧ Below w0.heap.size w0 wr ∧
    wr.ownsRow w0.heap.size 112 7 (.slice A k c) k (eds (lnsTo e n k))) (fun _ _ _ i _ => n - (intOf i).toNat)
  case atStart => exact ⟨0, none, 0, by omega, rfl, by rw [HE.out]; rfl, by rw [HE.out]; rfl, rfl, Below.refl _ _, own_nil⟩
  case round =>
    obtain ⟨k, A, c, hk, rfl, rfl, rfl, rfl, hbr, hown⟩ := hrel
    have hsz := hbr.size
    by_cases hlt : k < n
    · have cN2 : wr.cell? ⟨w'.heap.size, 0, none⟩ = some (.int .i64 n) := (later_cell hbr hz2).trans CN.out
      have cE2 : ∀ i, wr.cell? ⟨w.heap.size, i, none⟩ = (edc ⟨x0, y0, true, cx, cy, x1, y1⟩)[i]? := fun i => (later_cell hbr hz1).trans (CE.out i)
      have hX := HX'.out k
      have hY := HY'.out k
      rw [HE.out] at hX hY
      simp only at hX hY
      rw [← HE.out] at hX hY
      have CN2 := Lib.hid cN2
      have CE2 := Lib.hid cE2
      have HX2 := Lib.hid hX
      have HY2 := Lib.hid hY
      clear cN2 cE2 hX hY cN
      go_wp2_with (first
        | (go_at_call 119; refine (place_is x0 y0 cx cy x1 y1 n (k + 1) _ _ true _ _ _ h (by omega) (by omega) HX2.out HY2.out CN2.out CE2.out).mono ?_; rintro e1 w1 ⟨rfl, m, rfl⟩)
        | (at_builtin; refine wpList_app rfl _ _ 109 rfl w0.heap.size edT rfl (own_below hown (bal (bdrewN (Below.refl _ _) _) _)) (edc ⟨plcX e n k, plcY e n k, false, 0, 0, plcX e n (k + 1), plcY e n (k + 1)⟩) rfl (sl_newN _ (by simp) rfl) (oneCell_edc _) (by omega) (by simp; omega) ?_; intro A' c' w3 hown3 hg3 hat3))
      go_roundw
      case rel => exact ⟨k + 1, A', c', by omega, rfl, rfl, rfl, by go_num, grown_below (bal (bdrewN hbr _) _) hg3 (own_below hown (bal (bdrewN (Below.refl _ _) _) _)), by rw [lnsTo_snoc, eds_app, eds_one]; exact hown3⟩
      case measure => simp [intOf]; omega
    · obtain rfl : k = n := by omega
      go_wp2
      go_ret
      rw [lnsTo_len]
      exact ⟨A, c, rfl, own_mono hown (by omega), btr hbw hbr⟩

theorem Edges_any (x0 y0 cx cy x1 y1 : Int) (bent : Bool) (l : List Ed) (w : World) (hl : lns ⟨x0, y0, bent, cx, cy, x1, y1⟩ = l) :
    Calls Tryz.prog 67 #[.agg #[.int .i64 x0, .int .i64 y0, .bool bent, .int .i64 cx, .int .i64 cy, .int .i64 x1, .int .i64 y1]] w
      fun e w' => ∃ A c, e = .returned (.slice A l.length c) ∧ w'.ownsRow w.heap.size 112 7 (.slice A l.length c) l.length (eds l) ∧ Below w.heap.size w w' := by
  subst hl
  rcases Bool.eq_false_or_eq_true (edOK ⟨x0, y0, bent, cx, cy, x1, y1⟩) with h | h
  · cases bent
    · exact edges_flat _ _ _ _ _ _ _ h
    · exact edges_yes _ _ _ _ _ _ _ h
  · exact edges_no _ _ _ _ _ _ _ _ h

end Go.Proofs.YtdfkbbcoolgfiaaGreat
