/- The reference's numbers for layer 27: Div, Near, Place, Count. -/
import Derived.Test.YtdfkbbcoolgfiaaGreatMRM
import Derived.Test.YtdfkbbcoolgfiaaGreatMEd
import Derived.Test.YtdfkbbcoolgfiaaGreatAllP
namespace Go.Proofs.YtdfkbbcoolgfiaaGreat
open Go.RowKit

theorem tmod_sign (v n : Int) (_hn : 0 < n) : (0 ≤ v → 0 ≤ v.tmod n) ∧ (v < 0 → v.tmod n ≤ 0) := by
  refine ⟨fun h => Int.tmod_nonneg _ h, fun h => ?_⟩
  have := Int.tmod_nonneg n (a := -v) (by omega)
  rw [Int.neg_tmod] at this
  omega

set_option maxHeartbeats 400000 in
theorem Div_any (a d : Int) (w : World) (ha : -600000000 ≤ a ∧ a ≤ 600000000) (hd : 1 ≤ d ∧ d ≤ 16384) :
    Calls Tryz.prog 175 #[.int .i64 a, .int .i64 d] w fun e w' => e = .returned (.int .i64 (a / d)) ∧ w = w' := by
  obtain ⟨⟨b1, b2⟩, _⟩ := over_facts a d ha hd
  obtain ⟨k1, k2⟩ := tdiv_floor a d (by omega)
  obtain ⟨s1, s2⟩ := tmod_sign a d (by omega)
  have K1 := Lib.hid k1
  have K2 := Lib.hid k2
  clear k1 k2
  obtain ⟨ha1, ha2⟩ := ha
  obtain ⟨hd1, hd2⟩ := hd
  have hd0 : ¬ d < 0 := by omega
  have hdf : decide (d < 0) = false := by simp; omega
  by_cases ht : a.tmod d < 0
  · have han : a < 0 := by
      apply Decidable.byContradiction; intro h; have := s1 (by omega); omega
    have hab : decide (a < 0) = true := by simpa using han
    have htn : (a.tmod d != 0) = true := by simp; omega
    clear s1 s2
    go_enter Tryz.func175, Tryz.ntmps175
    go_wp2
    go_ret
    exact ⟨ret_int (K1.out ht), rfl⟩
  · by_cases h0 : 0 ≤ a
    · have hab : decide (a < 0) = false := by simpa using h0
      have han : ¬ a < 0 := by omega
      clear s1 s2
      go_enter Tryz.func175, Tryz.ntmps175
      go_wp2
      all_goals (go_ret; exact ⟨ret_int (K2.out ht), rfl⟩)
    · have htn : (a.tmod d != 0) = false := by have := s2 (by omega); simp; omega
      clear s1 s2
      go_enter Tryz.func175, Tryz.ntmps175
      go_wp2
      all_goals (go_ret; exact ⟨ret_int (K2.out ht), rfl⟩)

theorem near_facts (v m : Int) (hv : -600000000 ≤ v ∧ v ≤ 600000000) (hm : 1 ≤ m ∧ m ≤ 16384) :
    (-600000001 ≤ v / m ∧ v / m ≤ 600000000) ∧ (-700000000 ≤ v / m * m ∧ v / m * m ≤ 700000000) ∧ v - v / m * m = v % m ∧ 0 ≤ v % m ∧ v % m < m := by
  have hb := Int.mul_ediv_add_emod v m
  have h2 := Int.emod_nonneg v (show m ≠ 0 by omega)
  have h3 := Int.emod_lt_of_pos v (show 0 < m by omega)
  have hc : v / m * m = v - v % m := by rw [Int.mul_comm]; omega
  have hd : -600000001 ≤ v / m ∧ v / m ≤ 600000000 := by
    constructor
    · apply Decidable.byContradiction; intro h
      have : m * (v / m) ≤ m * (-600000002) := Int.mul_le_mul_of_nonneg_left (by omega) (by omega)
      omega
    · apply Decidable.byContradiction; intro h
      have : m * 600000001 ≤ m * (v / m) := Int.mul_le_mul_of_nonneg_left (by omega) (by omega)
      omega
  omega

set_option maxHeartbeats 400000 in
theorem Near_any (v m : Int) (w : World) (hv : -600000000 ≤ v ∧ v ≤ 600000000) (hm : 1 ≤ m ∧ m ≤ 16384) :
    Calls Tryz.prog 159 #[.int .i64 v, .int .i64 m] w fun e w' => e = .returned (.int .i64 (rnd v m)) ∧ w = w' := by
  obtain ⟨⟨b1, b2⟩, ⟨b3, b4⟩, e, e1, e2⟩ := near_facts v m hv hm
  obtain ⟨q, hq⟩ : ∃ q, q = v / m := ⟨_, rfl⟩
  rw [← hq] at b1 b2 b3 b4 e
  have D := Lib.hid (show ∀ W, Calls Tryz.prog 175 #[.int .i64 v, .int .i64 m] W fun e w' => e = .returned (.int .i64 q) ∧ W = w' from fun W => hq ▸ Div_any v m W hv hm)
  have HQ := Lib.hid hq
  have e3 : 0 ≤ v - q * m ∧ v - q * m < m := by omega
  obtain ⟨e3, e4⟩ := e3
  clear hq e e1 e2
  obtain ⟨ha1, ha2⟩ := hv
  obtain ⟨hd1, hd2⟩ := hm
  go_enter Tryz.func159, Tryz.ntmps159
  go_wp2_with (go_at_call 175; refine (D.out _).mono ?_; rintro e w' ⟨rfl, rfl⟩)
  all_goals (go_ret; refine ⟨ret_int ?_, rfl⟩; go_light)
  all_goals first
    | (refine over_lo HQ.out (by omega) (by omega) ?_ rfl; first | exact .inl (by assumption) | exact .inr (by assumption))
    | (refine over_hi HQ.out (by omega) ?_ (by omega); first | exact .inl (by assumption) | exact .inr ⟨by assumption, by assumption⟩)

theorem run_max_int4 {P : Program} {w : World} (ts : Array TypeId) (t : TypeId) (k k' k'' k3 : IntKind) (x y z u : Int) :
    (Builtin.max_ ts t #[.int k x, .int k' y, .int k'' z, .int k3 u]).run P w = .ok (.int k (max (max (max x y) z) u)) w := by
  have h : ∀ a b : Int, (if a < b then b else a) = max a b := fun a b => by split <;> omega
  simp [Builtin.max_, Builtin.max2, h]
attribute [local go_sem] run_max_int4

theorem ref_count_no (x0 y0 cx cy x1 y1 : Int) (bent : Bool) (w : World) (h : edOK ⟨x0, y0, bent, cx, cy, x1, y1⟩ = false) :
    Calls Tryz.prog 127 #[.agg #[.int .i64 x0, .int .i64 y0, .bool bent, .int .i64 cx, .int .i64 cy, .int .i64 x1, .int .i64 y1]] w
      fun e w' => e = .returned (.int .i64 (cntI ⟨x0, y0, bent, cx, cy, x1, y1⟩)) ∧ Below w.heap.size w w' := by
  go_enter Tryz.func127, Tryz.ntmps127
  go_wp2_with (go_at_call 158; refine (IsEdge_any _ _ _ _ _ _ _ _).mono ?_; rintro e w' ⟨rfl, hb1⟩; obtain ⟨hc1, hf1⟩ := bcell hb1)
  go_ret
  exact ⟨ret_int (by rw [cntI_no h]), btr (bal (Below.refl _ _) _) hb1⟩

theorem ref_count_flat (x0 y0 cx cy x1 y1 : Int) (w : World) (h : edOK ⟨x0, y0, false, cx, cy, x1, y1⟩ = true) :
    Calls Tryz.prog 127 #[.agg #[.int .i64 x0, .int .i64 y0, .bool false, .int .i64 cx, .int .i64 cy, .int .i64 x1, .int .i64 y1]] w
      fun e w' => e = .returned (.int .i64 (cntI ⟨x0, y0, false, cx, cy, x1, y1⟩)) ∧ Below w.heap.size w w' := by
  go_enter Tryz.func127, Tryz.ntmps127
  go_wp2_with (go_at_call 158; refine (IsEdge_any _ _ _ _ _ _ _ _).mono ?_; rintro e w' ⟨rfl, hb1⟩; obtain ⟨hc1, hf1⟩ := bcell hb1)
  go_ret
  exact ⟨ret_int (by rw [cntI_flat h rfl]), btr (bal (Below.refl _ _) _) hb1⟩

set_option maxHeartbeats 800000 in
theorem ref_count_yes (x0 y0 cx cy x1 y1 : Int) (w : World) (h : edOK ⟨x0, y0, true, cx, cy, x1, y1⟩ = true) :
    Calls Tryz.prog 127 #[.agg #[.int .i64 x0, .int .i64 y0, .bool true, .int .i64 cx, .int .i64 cy, .int .i64 x1, .int .i64 y1]] w
      fun e w' => e = .returned (.int .i64 (cntI ⟨x0, y0, true, cx, cy, x1, y1⟩)) ∧ Below w.heap.size w w' := by
  have hd := edOK_iff.1 h
  simp only at hd
  obtain ⟨⟨d1, d2⟩, ⟨d3, d4⟩, ⟨d5, d6⟩, ⟨d7, d8⟩, ⟨d9, d10⟩, ⟨d11, d12⟩, _⟩ := hd
  go_enter Tryz.func127, Tryz.ntmps127
  go_wp2_with (go_at_call 158; refine (IsEdge_any _ _ _ _ _ _ _ _).mono ?_; rintro e w' ⟨rfl, hb1⟩; obtain ⟨hc1, hf1⟩ := bcell hb1)
  obtain ⟨far, hfar⟩ : ∃ far, far = max (x0 - 2 * cx + x1) (max (2 * cx - x0 - x1) (max (y0 - 2 * cy + y1) (2 * cy - y0 - y1))) := ⟨_, rfl⟩
  rw [← hfar]
  have hf2 : far = farI x0 y0 cx cy x1 y1 := by rw [hfar, farI, sizeI, sizeI]; omega
  have hf3 := farI_le h
  have hf4 : far ≤ 32764 := by omega
  have hcnt : cntI ⟨x0, y0, true, cx, cy, x1, y1⟩ = pw far := by rw [cntI_yes h rfl, hf2]
  have HC := Lib.hid hcnt
  clear hfar hf2 hf3 hcnt
  have hbw : Below w.heap.size w w' := btr (bal (Below.refl _ _) _) hb1
  clear hb1 hc1 hf1
  go_loop [4] (fun i => ∃ n : Int, i = .int .i64 n ∧ 1 ≤ n ∧ n ≤ 128 ∧ Hid ((n = 1 ∨ n = 2 ∨ n = 4 ∨ n = 8 ∨ n = 16 ∨ n = 32 ∨ n = 64 ∨ n = 128) ∧ n ≤ pw far)) (fun i => (128 - intOf i).toNat)
  case atStart => exact ⟨1, rfl, by omega, by omega, by simp, (pw_bd far).1⟩
  case round =>
    obtain ⟨n, rfl, hn1, hn2, hn3⟩ := hrel
    have hst := pw_step hn3.out.1 hf4 hn3.out.2
    have hnb := bd3 4 n n (by omega) (by omega) (by omega)
    obtain ⟨⟨e1, e2⟩, e3, e4⟩ := hnb
    obtain ⟨g1, g2⟩ := hst
    have G1 := Lib.hid g1
    have G2 := Lib.hid g2
    clear g1 g2
    by_cases ht : 4 * n * n < far
    · have hg : ((2 * n = 1 ∨ 2 * n = 2 ∨ 2 * n = 4 ∨ 2 * n = 8 ∨ 2 * n = 16 ∨ 2 * n = 32 ∨ 2 * n = 64 ∨ 2 * n = 128) ∧ 2 * n ≤ pw far) := by
        have := G1.out ht; omega
      have HG := Lib.hid hg
      have hg2 : 2 * n ≤ 128 := by have := (pw_bd far).2; omega
      clear hg
      go_wp2
      go_round
      case rel => exact ⟨2 * n, rfl, by omega, by omega, HG.out⟩
      case measure => simp [intOf]; omega
    · go_wp2
      go_ret
      exact ⟨ret_int (by rw [HC.out, G2.out ht]), hbw⟩

theorem ref_Count_is (x0 y0 cx cy x1 y1 n : Int) (bent : Bool) (w : World) (hn : cntI ⟨x0, y0, bent, cx, cy, x1, y1⟩ = n) :
    Calls Tryz.prog 127 #[.agg #[.int .i64 x0, .int .i64 y0, .bool bent, .int .i64 cx, .int .i64 cy, .int .i64 x1, .int .i64 y1]] w
      fun e w' => e = .returned (.int .i64 n) ∧ Below w.heap.size w w' := by
  subst hn
  rcases Bool.eq_false_or_eq_true (edOK ⟨x0, y0, bent, cx, cy, x1, y1⟩) with h | h
  · cases bent
    · exact ref_count_flat _ _ _ _ _ _ _ h
    · exact ref_count_yes _ _ _ _ _ _ _ h
  · exact ref_count_no _ _ _ _ _ _ _ _ h

theorem plc1_ref (a c b k n : Int) : a * ((n - k) * (n - k)) + c * (2 * k * (n - k)) + b * (k * k) = a * (n - k) * (n - k) + 2 * c * k * (n - k) + b * k * k := by grind

set_option maxHeartbeats 800000 in
theorem ref_Place_is (x0 y0 cx cy x1 y1 n k X Y : Int) (bent : Bool) (w : World)
    (h : edOK ⟨x0, y0, bent, cx, cy, x1, y1⟩ = true) (hn : 1 ≤ n ∧ n ≤ 128) (hk : 0 ≤ k ∧ k ≤ n) (hX : plc1 x0 cx x1 k n = X) (hY : plc1 y0 cy y1 k n = Y) :
    Calls Tryz.prog 128 #[.agg #[.int .i64 x0, .int .i64 y0, .bool bent, .int .i64 cx, .int .i64 cy, .int .i64 x1, .int .i64 y1], .int .i64 k, .int .i64 n] w
      fun e w' => e = .returned (.tuple #[.int .i64 X, .int .i64 Y]) ∧ Below w.heap.size w w' := by
  have hd := edOK_iff.1 h
  simp only at hd
  obtain ⟨d1, d3, d5, d7, d9, d11, _⟩ := hd
  have u : 0 ≤ (n - k) * (n - k) ∧ (n - k) * (n - k) ≤ 16384 := by
    have := mul_bd (A := 128) (B := 128) (a := n - k) (b := n - k) (by omega) (by omega)
    have := Int.mul_nonneg (a := n - k) (b := n - k) (by omega) (by omega)
    omega
  have v : 0 ≤ 2 * k * (n - k) ∧ 2 * k * (n - k) ≤ 32768 := by
    have := mul_bd (A := 256) (B := 128) (a := 2 * k) (b := n - k) (by omega) (by omega)
    have := Int.mul_nonneg (a := 2 * k) (b := n - k) (by omega) (by omega)
    omega
  have z : 0 ≤ k * k ∧ k * k ≤ 16384 := by
    have := mul_bd (A := 128) (B := 128) (a := k) (b := k) (by omega) (by omega)
    have := Int.mul_nonneg (a := k) (b := k) (by omega) (by omega)
    omega
  have v1 : 1 ≤ n * n ∧ n * n ≤ 16384 := by
    have a1 : 1 * n ≤ n * n := Int.mul_le_mul_of_nonneg_right hn.1 (by omega)
    have a2 : n * n ≤ 128 * n := Int.mul_le_mul_of_nonneg_right hn.2 (by omega)
    omega
  obtain ⟨p1, p2⟩ := mul_bd (A := 8191) (B := 16384) (a := x0) (b := (n - k) * (n - k)) (by omega) u
  obtain ⟨p3, p4⟩ := mul_bd (A := 8191) (B := 32768) (a := cx) (b := 2 * k * (n - k)) (by omega) v
  obtain ⟨p5, p6⟩ := mul_bd (A := 8191) (B := 16384) (a := x1) (b := k * k) (by omega) z
  obtain ⟨q1, q2⟩ := mul_bd (A := 8191) (B := 16384) (a := y0) (b := (n - k) * (n - k)) (by omega) u
  obtain ⟨q3, q4⟩ := mul_bd (A := 8191) (B := 32768) (a := cy) (b := 2 * k * (n - k)) (by omega) v
  obtain ⟨q5, q6⟩ := mul_bd (A := 8191) (B := 16384) (a := y1) (b := k * k) (by omega) z
  have NX := Lib.hid (show ∀ W, Calls Tryz.prog 159 #[.int .i64 (x0 * ((n - k) * (n - k)) + cx * (2 * k * (n - k)) + x1 * (k * k)), .int .i64 (n * n)] W fun e w' => e = .returned (.int .i64 X) ∧ W = w' from fun W => by
    have := Near_any (x0 * ((n - k) * (n - k)) + cx * (2 * k * (n - k)) + x1 * (k * k)) (n * n) W (by omega) v1
    rw [← hX]; unfold plc1; rw [← plc1_ref]; exact this)
  have NY := Lib.hid (show ∀ W, Calls Tryz.prog 159 #[.int .i64 (y0 * ((n - k) * (n - k)) + cy * (2 * k * (n - k)) + y1 * (k * k)), .int .i64 (n * n)] W fun e w' => e = .returned (.int .i64 Y) ∧ W = w' from fun W => by
    have := Near_any (y0 * ((n - k) * (n - k)) + cy * (2 * k * (n - k)) + y1 * (k * k)) (n * n) W (by omega) v1
    rw [← hY]; unfold plc1; rw [← plc1_ref]; exact this)
  obtain ⟨u1, u2⟩ := u
  obtain ⟨v11, v12⟩ := v
  obtain ⟨z1, z2⟩ := z
  obtain ⟨v13, v14⟩ := v1
  obtain ⟨d1, d2⟩ := d1
  obtain ⟨d3, d4⟩ := d3
  obtain ⟨d5, d6⟩ := d5
  obtain ⟨d7, d8⟩ := d7
  obtain ⟨d9, d10⟩ := d9
  obtain ⟨d11, d12⟩ := d11
  obtain ⟨hn1, hn2⟩ := hn
  obtain ⟨hk1, hk2⟩ := hk
  clear hX hY
  go_enter Tryz.func128, Tryz.ntmps128
  go_wp2
  go_quiet ((first | (go_at_call_of 159 x0; exact quiet_left (NX.out _)) | (go_at_call_of 159 y0; exact quiet_left (NY.out _))))
  go_wp2
  go_ret2
  exact ⟨rfl, bdrewN (bal (Below.refl _ _) _) _⟩

end Go.Proofs.YtdfkbbcoolgfiaaGreat

namespace Go.Proofs.YtdfkbbcoolgfiaaGreat
open Go.RowKit

set_option maxHeartbeats 400000 in
theorem ref_lines_no (x0 y0 cx cy x1 y1 : Int) (bent : Bool) (w : World) (h : edOK ⟨x0, y0, bent, cx, cy, x1, y1⟩ = false) :
    Calls Tryz.prog 73 #[.agg #[.int .i64 x0, .int .i64 y0, .bool bent, .int .i64 cx, .int .i64 cy, .int .i64 x1, .int .i64 y1]] w
      fun e w' => ∃ A c, e = .returned (.slice A (lns ⟨x0, y0, bent, cx, cy, x1, y1⟩).length c) ∧ w'.ownsRow w.heap.size 112 7 (.slice A (lns ⟨x0, y0, bent, cx, cy, x1, y1⟩).length c) (lns ⟨x0, y0, bent, cx, cy, x1, y1⟩).length (eds (lns ⟨x0, y0, bent, cx, cy, x1, y1⟩)) ∧ Below w.heap.size w w' := by
  rw [lns_no h]
  have hC := fun W => ref_Count_is x0 y0 cx cy x1 y1 0 bent W (cntI_no h)
  have HC := Lib.hid hC
  clear hC
  go_enter Tryz.func73, Tryz.ntmps73
  go_wp2_with (go_at_call 127; refine (HC.out _).mono ?_; rintro e w' ⟨rfl, hb1⟩; obtain ⟨hc1, hf1⟩ := bcell hb1)
  go_ret
  exact ⟨none, 0, rfl, own_nil, btr (bal (Below.refl _ _) _) hb1⟩

set_option maxHeartbeats 400000 in
theorem ref_lines_flat (x0 y0 cx cy x1 y1 : Int) (w : World) (h : edOK ⟨x0, y0, false, cx, cy, x1, y1⟩ = true) :
    Calls Tryz.prog 73 #[.agg #[.int .i64 x0, .int .i64 y0, .bool false, .int .i64 cx, .int .i64 cy, .int .i64 x1, .int .i64 y1]] w
      fun e w' => ∃ A c, e = .returned (.slice A (lns ⟨x0, y0, false, cx, cy, x1, y1⟩).length c) ∧ w'.ownsRow w.heap.size 112 7 (.slice A (lns ⟨x0, y0, false, cx, cy, x1, y1⟩).length c) (lns ⟨x0, y0, false, cx, cy, x1, y1⟩).length (eds (lns ⟨x0, y0, false, cx, cy, x1, y1⟩)) ∧ Below w.heap.size w w' := by
  rw [lns_flat h rfl]
  have hC := fun W => ref_Count_is x0 y0 cx cy x1 y1 1 false W (cntI_flat h rfl)
  have HC := Lib.hid hC
  clear hC
  go_enter Tryz.func73, Tryz.ntmps73
  go_wp2_with (go_at_call 127; refine (HC.out _).mono ?_; rintro e w' ⟨rfl, hb1⟩; obtain ⟨hc1, hf1⟩ := bcell hb1; have hz : w.heap.size < w'.heap.size := (by have := hb1.size; simp at this; omega))
  go_ret
  refine ⟨_, _, rfl, ?_, bal (btr (bal (Below.refl _ _) _) hb1) _⟩
  rw [eds_one]
  exact own_new (edc ⟨x0, y0, false, cx, cy, x1, y1⟩) (by simp) rfl (by omega) (by omega)

set_option maxHeartbeats 400000 in
theorem ref_lines_yes (x0 y0 cx cy x1 y1 : Int) (w : World) (h : edOK ⟨x0, y0, true, cx, cy, x1, y1⟩ = true) :
    Calls Tryz.prog 73 #[.agg #[.int .i64 x0, .int .i64 y0, .bool true, .int .i64 cx, .int .i64 cy, .int .i64 x1, .int .i64 y1]] w
      fun e w' => ∃ A c, e = .returned (.slice A (lns ⟨x0, y0, true, cx, cy, x1, y1⟩).length c) ∧ w'.ownsRow w.heap.size 112 7 (.slice A (lns ⟨x0, y0, true, cx, cy, x1, y1⟩).length c) (lns ⟨x0, y0, true, cx, cy, x1, y1⟩).length (eds (lns ⟨x0, y0, true, cx, cy, x1, y1⟩)) ∧ Below w.heap.size w w' := by
  obtain ⟨e, he⟩ : ∃ e : Ed, e = ⟨x0, y0, true, cx, cy, x1, y1⟩ := ⟨_, rfl⟩
  have hcb := cntI_bd h rfl
  obtain ⟨n, hn⟩ : ∃ n : Nat, cntI ⟨x0, y0, true, cx, cy, x1, y1⟩ = n := ⟨(cntI ⟨x0, y0, true, cx, cy, x1, y1⟩).toNat, by omega⟩
  have hn2 : 1 ≤ n ∧ n ≤ 128 := by omega
  obtain ⟨hn2, hn3⟩ := hn2
  have hl : lns ⟨x0, y0, true, cx, cy, x1, y1⟩ = lnsTo e n n := by rw [lns_yes h rfl, hn, he]; rfl
  rw [hl]
  have hC := fun W => ref_Count_is x0 y0 cx cy x1 y1 n true W hn
  have HC := Lib.hid hC
  have HE := Lib.hid he
  clear hC hn hl he hcb
  have hn0 : ((n : Int) == 0) = false := by simp; omega
  go_enter Tryz.func73, Tryz.ntmps73
  go_wp2_with (go_at_call 127; refine (HC.out _).mono ?_; rintro e w' ⟨rfl, hb1⟩; obtain ⟨hc1, hf1⟩ := bcell hb1; have hz : w.heap.size < w'.heap.size := (by have := hb1.size; simp at this; omega))
  go_quiet (fail)
  obtain ⟨w0, hw0⟩ : ∃ w0, w0 = w'.drewN nq := ⟨_, rfl⟩
  rw [← hw0]
  have B0 := bdrewN hb1 nq
  rw [← hw0] at B0
  have hz0 : w0.heap.size = w'.heap.size := by rw [hw0]; rfl
  have cE : ∀ i, w0.cell? ⟨w.heap.size, i, none⟩ = (edc ⟨x0, y0, true, cx, cy, x1, y1⟩)[i]? := fun i => by
    rw [later_cell B0 (by simp), new_cell]; simp [edc]
  have hbw : Below w.heap.size w w0 := btr (bal (Below.refl _ _) _) B0
  have hz1 : w.heap.size < w0.heap.size := by omega
  have CE := Lib.hid cE
  have HX := fun k => plcX_succ e n k
  have HY := fun k => plcY_succ e n k
  have HX' := Lib.hid HX
  have HY' := Lib.hid HY
  clear cE HX HY hw0 hz0 B0 hc1 hf1 hb1 hz
  go_wp2
  go_loopw [4, 5, 6, 7] (fun out x y i wr => ∃ k A c, k ≤ n ∧ out = .slice A k c ∧ x = .int .i64 (plcX e n k) ∧ y = .int .i64 (plcY e n k) ∧ i = .int .i64 ((k : Int) + 1) ∧ Below w0.heap.size w0 wr ∧
    wr.ownsRow w0.heap.size 112 7 (.slice A k c) k (eds (lnsTo e n k))) (fun _ _ _ i _ => n + 1 - (intOf i).toNat)
  case atStart => exact ⟨0, none, 0, by omega, rfl, by rw [HE.out]; rfl, by rw [HE.out]; rfl, rfl, Below.refl _ _, own_nil⟩
  case round =>
    obtain ⟨k, A, c, hk, rfl, rfl, rfl, rfl, hbr, hown⟩ := hrel
    have hsz := hbr.size
    by_cases hlt : k < n
    · have e0 : wr.cell? ⟨w.heap.size, 0, none⟩ = some (.int .i64 x0) := (later_cell hbr hz1).trans (CE.out 0)
      have e1 : wr.cell? ⟨w.heap.size, 1, none⟩ = some (.int .i64 y0) := (later_cell hbr hz1).trans (CE.out 1)
      have e2 : wr.cell? ⟨w.heap.size, 2, none⟩ = some (.bool true) := (later_cell hbr hz1).trans (CE.out 2)
      have e3 : wr.cell? ⟨w.heap.size, 3, none⟩ = some (.int .i64 cx) := (later_cell hbr hz1).trans (CE.out 3)
      have e4 : wr.cell? ⟨w.heap.size, 4, none⟩ = some (.int .i64 cy) := (later_cell hbr hz1).trans (CE.out 4)
      have e5 : wr.cell? ⟨w.heap.size, 5, none⟩ = some (.int .i64 x1) := (later_cell hbr hz1).trans (CE.out 5)
      have e6 : wr.cell? ⟨w.heap.size, 6, none⟩ = some (.int .i64 y1) := (later_cell hbr hz1).trans (CE.out 6)
      have hX := HX'.out k
      have hY := HY'.out k
      rw [HE.out] at hX hY
      simp only at hX hY
      rw [← HE.out] at hX hY
      have HX2 := Lib.hid hX
      have HY2 := Lib.hid hY
      clear hX hY
      go_wp2_with (first
        | (go_at_call 128; refine (ref_Place_is x0 y0 cx cy x1 y1 n (k + 1) _ _ true _ h (by omega) (by omega) HX2.out HY2.out).mono ?_; rintro e1 w1 ⟨rfl, hb2⟩)
        | (at_builtin; refine wpList_app rfl _ _ 109 rfl w0.heap.size edT rfl (own_below hown (bal (btr (Below.refl _ _) hb2) _)) (edc ⟨plcX e n k, plcY e n k, false, 0, 0, plcX e n (k + 1), plcY e n (k + 1)⟩) rfl (sl_newN _ (by simp) rfl) (oneCell_edc _) (by omega) (by have := hb2.size; simp; omega) ?_; intro A' c' w3 hown3 hg3 hat3))
      go_roundw
      case rel => exact ⟨k + 1, A', c', by omega, rfl, rfl, rfl, by go_num, grown_below (bal (btr hbr hb2) _) hg3 (own_below hown (bal (btr (Below.refl _ _) hb2) _)), by rw [lnsTo_snoc, eds_app, eds_one]; exact hown3⟩
      case measure => simp [intOf]; omega
    · obtain rfl : k = n := by omega
      go_wp2
      go_ret
      rw [lnsTo_len]
      exact ⟨A, c, rfl, own_mono hown (by omega), btr hbw hbr⟩

theorem ref_Lines_any (x0 y0 cx cy x1 y1 : Int) (bent : Bool) (l : List Ed) (w : World) (hl : lns ⟨x0, y0, bent, cx, cy, x1, y1⟩ = l) :
    Calls Tryz.prog 73 #[.agg #[.int .i64 x0, .int .i64 y0, .bool bent, .int .i64 cx, .int .i64 cy, .int .i64 x1, .int .i64 y1]] w
      fun e w' => ∃ A c, e = .returned (.slice A l.length c) ∧ w'.ownsRow w.heap.size 112 7 (.slice A l.length c) l.length (eds l) ∧ Below w.heap.size w w' := by
  subst hl
  rcases Bool.eq_false_or_eq_true (edOK ⟨x0, y0, bent, cx, cy, x1, y1⟩) with h | h
  · cases bent
    · exact ref_lines_flat _ _ _ _ _ _ _ h
    · exact ref_lines_yes _ _ _ _ _ _ _ h
  · exact ref_lines_no _ _ _ _ _ _ _ _ h

end Go.Proofs.YtdfkbbcoolgfiaaGreat

namespace Go.Proofs.YtdfkbbcoolgfiaaGreat
open Go.RowKit

theorem ref_Seg_bow (x0 y0 cx cy x1 y1 : Int) (w : World) :
    Calls Tryz.prog 74 #[.agg #[.int .i64 x0, .int .i64 y0, .bool true, .int .i64 cx, .int .i64 cy, .int .i64 x1, .int .i64 y1]] w
      fun e w' => e = .returned (.agg #[.int .i64 3, .int .i64 x1, .int .i64 y1, .int .i64 cx, .int .i64 cy]) ∧ Below w.heap.size w w' := by
  go_enter Tryz.func74, Tryz.ntmps74
  go_wp2
  refine bodyPost_ret (v := .agg #[.int .i64 3, .int .i64 x1, .int .i64 y1, .int .i64 cx, .int .i64 cy]) (by simp [results, Tryz.results74, go_sem]) rfl ⟨rfl, ?_⟩
  go_light
  repeat (first | exact bal (bal (Below.refl _ _) _) _ | refine bset ?_ (by simp) _)

theorem ref_Seg_line (x0 y0 cx cy x1 y1 : Int) (w : World) :
    Calls Tryz.prog 74 #[.agg #[.int .i64 x0, .int .i64 y0, .bool false, .int .i64 cx, .int .i64 cy, .int .i64 x1, .int .i64 y1]] w
      fun e w' => e = .returned (.agg #[.int .i64 2, .int .i64 x1, .int .i64 y1, .int .i64 0, .int .i64 0]) ∧ Below w.heap.size w w' := by
  go_enter Tryz.func74, Tryz.ntmps74
  go_wp2
  refine bodyPost_ret (v := .agg #[.int .i64 2, .int .i64 x1, .int .i64 y1, .int .i64 0, .int .i64 0]) (by simp [results, Tryz.results74, go_sem]) rfl ⟨rfl, ?_⟩
  go_light
  repeat (first | exact bal (bal (Below.refl _ _) _) _ | refine bset ?_ (by simp) _)

end Go.Proofs.YtdfkbbcoolgfiaaGreat

namespace Go.Proofs.YtdfkbbcoolgfiaaGreat
open Go.RowKit

set_option maxHeartbeats 1000000 in
theorem ref_Flat_no (A : Option Addr) (n c : Nat) (l : List Sg) (w : World) (hm : n ≤ 1000000) (h : Sl w 5 A n (sgs l)) (hok : mayB l = false) :
    Calls Tryz.prog 33 #[.slice A n c] w fun e w' => ∃ A' c', e = .returned (.tuple #[.slice A' (flatE l).1.length c', .int .i64 (flatE l).2]) ∧
      w'.ownsRow w.heap.size 63 5 (.slice A' (flatE l).1.length c') (flatE l).1.length (sgs (flatE l).1) ∧ Below w.heap.size w w' := by
  have hE : flatE l = ([], 1) := by simp [flatE, hok]
  rw [hE]
  go_enter Tryz.func33, Tryz.ntmps33
  go_wp2_with (go_at_call 62; refine (ref_May_any _ _ _ l _ hm h).mono ?_; rintro e w' ⟨rfl, hb1⟩)
  go_ret2
  exact ⟨none, 0, rfl, own_nil, hb1⟩

set_option maxRecDepth 100000 in
set_option maxHeartbeats 2000000 in
theorem ref_Flat_yes (A : Option Addr) (n c : Nat) (l : List Sg) (w : World) (hm : n ≤ 1000000) (h : Sl w 5 A n (sgs l)) (hok : mayB l = true) :
    Calls Tryz.prog 33 #[.slice A n c] w fun e w' => ∃ A' c', e = .returned (.tuple #[.slice A' (flatE l).1.length c', .int .i64 (flatE l).2]) ∧
      w'.ownsRow w.heap.size 63 5 (.slice A' (flatE l).1.length c') (flatE l).1.length (sgs (flatE l).1) ∧ Below w.heap.size w w' := by
  have hl := h.sglen
  have hn3 : n ≤ 300 := by rw [← hl]; simp [mayB] at hok; exact hok.1
  obtain ⟨E, hE⟩ : ∃ E, flatE l = E := ⟨_, rfl⟩
  have HE := Lib.hid hE
  rw [hE]
  clear hE
  go_enter Tryz.func33, Tryz.ntmps33
  go_wp2_with (go_at_call 62; refine (ref_May_any _ _ _ l _ hm h).mono ?_; rintro e w1 ⟨rfl, hb1⟩)
  go_loopw [4, 5, 6, 7] (fun out x y i wr => ∃ k m A' c', k ≤ n ∧ m ≤ 128 * k ∧ out = .slice A' m c' ∧ x = .int .i64 (lastX (l.take k)) ∧ y = .int .i64 (lastY (l.take k)) ∧ i = .int .i64 (k : Int) ∧ Below w1.heap.size w1 wr ∧
    Hid ((flatL (l.take k)).length = m) ∧ wr.ownsRow w1.heap.size 63 5 (.slice A' m c') m (sgs (flatL (l.take k)))) (fun _ _ _ i _ => n - (intOf i).toNat)
  case atStart => exact ⟨0, 0, none, 0, by omega, by omega, rfl, rfl, rfl, rfl, Below.refl _ _, rfl, own_nil⟩
  case round =>
    obtain ⟨wo, rfl⟩ : ∃ wo : World, wo = wr := ⟨_, rfl⟩
    obtain ⟨k, m, A1, c1, hk, hm3, rfl, rfl, rfl, rfl, hbr, hml, hown⟩ := hrel
    have hsz := hbr.size
    obtain ⟨x, hx⟩ : ∃ x, x = lastX (l.take k) := ⟨_, rfl⟩
    obtain ⟨y, hy⟩ : ∃ y, y = lastY (l.take k) := ⟨_, rfl⟩
    rw [← hx, ← hy]
    have HX := Lib.hid hx
    have HY := Lib.hid hy
    clear hx hy
    by_cases hlt : k < n
    · have hkl : k < l.length := by omega
      obtain ⟨b, off, rfl, hb, d0, d1, d2, d3, d4⟩ := ((h.below hb1).below hbr).sg k hlt hkl
      obtain ⟨sk, hsk⟩ : ∃ s, s = l[k] := ⟨_, rfl⟩
      have htk := flatL_take l k hkl
      have hxk := lastX_take l k hkl
      have hyk := lastY_take l k hkl
      rw [← hsk] at d0 d1 d2 d3 d4 htk hxk hyk
      rw [← HX.out, ← HY.out] at htk
      have HTK := Lib.hid htk
      have HXK := Lib.hid hxk
      have HYK := Lib.hid hyk
      clear hsk htk hxk hyk
      by_cases hk3 : sk.kind = 3
      · obtain ⟨es, hes⟩ : ∃ es, lns ⟨x, y, true, sk.cx, sk.cy, sk.x, sk.y⟩ = es := ⟨_, rfl⟩
        have hfs : flatSeg x y sk = es.map lnSg := by rw [flatSeg_bow hk3, hes]
        have HES := Lib.hid hes
        have HFS := Lib.hid hfs
        have hq8 : es.length ≤ 128 := by rw [← hes]; exact lns_le _
        have hst : ∀ i (hi : i < es.length), es[i].bent = false := fun i hi => by
          have := lns_straight ⟨x, y, true, sk.cx, sk.cy, sk.x, sk.y⟩ rfl i (by rw [hes]; exact hi)
          simpa only [hes] using this
        have HST := Lib.hid hst
        obtain ⟨q, hq⟩ : ∃ q, es.length = q := ⟨_, rfl⟩
        have HQ := Lib.hid hq
        rw [hq] at hq8
        have hEd := fun W => ref_Lines_any x y sk.cx sk.cy sk.x sk.y true es W HES.out
        rw [hq] at hEd
        have HED := Lib.hid hEd
        have hk3' : (sk.kind == 3) = true := by simp [hk3]
        clear hfs hes hq hEd hk3 hst
        go_wp2_with (go_at_call 73; refine (HED.out _).mono ?_; rintro e wE ⟨AE, cE, rfl, hownE, hbE⟩)
        have hownO := own_below hown (btr (bal (Below.refl _ _) _) hbE)
        have hszE := hbE.size
        simp at hszE
        have hzE : wo.heap.size < wE.heap.size := by omega
        have b1 : wE.cell? ⟨wo.heap.size, 1, none⟩ = some (.int .i64 sk.x) := (later_cell hbE (by simp)).trans (new_cell _ 1)
        have b2 : wE.cell? ⟨wo.heap.size, 2, none⟩ = some (.int .i64 sk.y) := (later_cell hbE (by simp)).trans (new_cell _ 2)
        have B1 := Lib.hid b1
        have B2 := Lib.hid b2
        have hbO : Below w1.heap.size w1 wE := btr (bal hbr _) hbE
        clear b1 b2 d0 d1 d2 d3 d4 HED hbE
        go_loopw [4, 10] (fun out i wi => ∃ j A' c', j ≤ q ∧ out = .slice A' (m + j) c' ∧ i = .int .i64 (j : Int) ∧ Below w1.heap.size w1 wi ∧ Mid wo.heap.size wE.heap.size wE wi ∧ Off wo.heap.size wE.heap.size (.slice A' (m + j) c') ∧
          wi.ownsRow w1.heap.size 63 5 (.slice A' (m + j) c') (m + j) (sgs (flatL (l.take k) ++ (es.take j).map lnSg))) (fun _ i _ => q - (intOf i).toNat)
        case atStart => exact ⟨0, A1, c1, by omega, rfl, rfl, hbO, Mid.refl _ _, Off.old hown _, by simpa using hownO⟩
        case round =>
          obtain ⟨j, A2, c2, hj, rfl, rfl, hbi, hmd, hoff, howni⟩ := hrel
          have hsi := hbi.size
          have hmi := hmd.1
          by_cases hjq : j < q
          · have hje : j < es.length := by rw [HQ.out]; exact hjq
            obtain ⟨b', off', rfl, hb', g0, g1, g2, g3, g4, g5, g6⟩ := (own_sl (hmd.own (by simp) hownE)).ed j hjq hje
            have hbf := HST.out j hje
            obtain ⟨e, he⟩ : ∃ e, e = es[j] := ⟨_, rfl⟩
            have hms := map_take_snoc lnSg es j hje
            rw [← he] at g0 g1 g2 g3 g4 g5 g6 hms hbf
            rw [hbf] at g2
            have HMS := Lib.hid hms
            clear he hms hbf
            go_wp2_with (first
              | (go_at_call 74; refine (ref_Seg_line _ _ _ _ _ _ _).mono ?_; rintro e1 wS ⟨rfl, hbS⟩)
              | (at_builtin; refine wpList_app rfl _ _ 24 rfl w1.heap.size sgT rfl (own_below howni (bal (btr (Below.refl _ _) hbS) _)) (sgc (lnSg e)) rfl (sl_newN _ (by simp) rfl) (oneCell_sgc _) (by omega) (by have := hbS.size; simp; omega) ?_; intro A3 c3 w3 hown3 hg3 hat3))
            go_roundw
            case rel => exact ⟨j + 1, A3, c3, by omega, rfl, by go_num, grown_below (bal (btr hbi hbS) _) hg3 (own_below howni (bal (btr (Below.refl _ _) hbS) _)), (hmd.bel (bal (btr (Below.refl _ _) hbS) _)).grown hoff hg3, hoff.next hat3 (by have := hbS.size; simp; omega), by rw [HMS.out, ← List.append_assoc, sgs_app _ [_], sgs_one]; exact hown3⟩
            case measure => simp [intOf]; omega
          · obtain rfl : j = q := by omega
            have htake : es.take j = es := List.take_of_length_le (by rw [HQ.out]; omega)
            have hall : flatL (l.take (k + 1)) = flatL (l.take k) ++ (es.take j).map lnSg := by rw [HTK.out, HFS.out, htake]
            have hlen : (flatL (l.take (k + 1))).length = m + j := by rw [HTK.out, HFS.out, List.length_append, hml.out, List.length_map, HQ.out]
            rw [← hall] at howni
            have HLEN := Lib.hid hlen
            clear htake hall hlen
            have f1 : wr.cell? ⟨wo.heap.size, 1, none⟩ = some (.int .i64 sk.x) := (hmd.cell (Nat.le_refl _) hzE).trans B1.out
            have f2 : wr.cell? ⟨wo.heap.size, 2, none⟩ = some (.int .i64 sk.y) := (hmd.cell (Nat.le_refl _) hzE).trans B2.out
            go_wp2
            go_quiet (fail)
            go_wp2
            go_roundw
            case rel => exact ⟨k + 1, m + j, A2, c2, by omega, by omega, rfl, by rw [HXK.out], by rw [HYK.out], by go_num, bdrewN hbi _, HLEN.out, howni⟩
            case measure => simp [intOf]; omega
      · have hfs : flatSeg x y sk = [sk] := by simp [flatSeg, hk3]
        have hlen : (flatL (l.take (k + 1))).length = m + 1 := by rw [HTK.out, hfs, List.length_append, hml.out]; rfl
        have hall : flatL (l.take (k + 1)) = flatL (l.take k) ++ [sk] := by rw [HTK.out, hfs]
        have HLEN := Lib.hid hlen
        have HALL := Lib.hid hall
        have hk3' : (sk.kind == 3) = false := by simp [hk3]
        clear hfs hk3 hlen hall
        go_wp2_with (at_builtin; refine wpList_app rfl _ _ 24 rfl w1.heap.size sgT rfl (own_below hown (bal (bal (Below.refl _ _) _) _)) (sgc sk) rfl (sl_newN _ (by simp) rfl) (oneCell_sgc _) (by omega) (by simp; omega) ?_; intro A2 c2 w3 hown3 hg3 hat3; have f1 : w3.cell? ⟨wo.heap.size, 1, none⟩ = some (.int .i64 sk.x) := box_kept hown hg3 1; have f2 : w3.cell? ⟨wo.heap.size, 2, none⟩ = some (.int .i64 sk.y) := box_kept hown hg3 2)
        go_quiet (fail)
        go_wp2
        go_roundw
        case rel => exact ⟨k + 1, m + 1, A2, c2, by omega, by omega, rfl, by rw [HXK.out], by rw [HYK.out], by go_num, bdrewN (grown_below (bal (bal hbr _) _) hg3 (own_below hown (bal (bal (Below.refl _ _) _) _))) _, HLEN.out, by rw [HALL.out, sgs_app, sgs_one]; exact hown3⟩
        case measure => simp [intOf]; omega
    · obtain rfl : k = n := by omega
      have htake : l.take k = l := List.take_of_length_le (by omega)
      rw [htake] at hown hml
      clear htake
      by_cases hov : m ≤ 300
      · have HEA := Lib.hid (flatE_all hok (by rw [hml.out]; exact hov))
        go_wp2
        go_ret2
        rw [← HE.out, HEA.out]
        simp only
        rw [hml.out]
        exact ⟨A1, c1, rfl, own_mono hown hb1.size, btr hb1 hbr⟩
      · have HEA := Lib.hid (flatE_over (l := l) (k := l.length) hok (by rw [List.take_length, hml.out]; omega))
        go_wp2
        go_ret2
        rw [← HE.out, HEA.out]
        exact ⟨none, 0, rfl, own_nil, btr hb1 hbr⟩

end Go.Proofs.YtdfkbbcoolgfiaaGreat
