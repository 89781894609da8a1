/- The reference's numbers for layer 27: Div, Near, Place, Count. -/
import Derived.Test.YtpompbpdhahljaaRef
import Derived.Test.YtpompbpdhahljaaEdges
namespace Go.Proofs.Ytpompbpdhahljaa
open Go.RowKit

theorem tmod_sign (v n : Int) (_hn : 0 < n) : (0 ≤ v → 0 ≤ v.tmod n) ∧ (v < 0 → v.tmod n ≤ 0) := by
  refine ⟨fun h => Int.tmod_nonneg _ h, fun h => ?_⟩
  have := Int.tmod_nonneg n (a := -v) (by omega)
  rw [Int.neg_tmod] at this
  omega

set_option maxHeartbeats 400000 in
theorem Div_any (a d : Int) (w : World) (ha : -600000000 ≤ a ∧ a ≤ 600000000) (hd : 1 ≤ d ∧ d ≤ 16384) :
    Calls Try.prog 81 #[.int .i64 a, .int .i64 d] w fun e w' => e = .returned (.int .i64 (a / d)) ∧ w = w' := by
  obtain ⟨⟨b1, b2⟩, _⟩ := over_facts a d ha hd
  obtain ⟨k1, k2⟩ := tdiv_floor a d (by omega)
  obtain ⟨s1, s2⟩ := tmod_sign a d (by omega)
  have K1 := Lib.hid k1
  have K2 := Lib.hid k2
  clear k1 k2
  obtain ⟨ha1, ha2⟩ := ha
  obtain ⟨hd1, hd2⟩ := hd
  have hd0 : ¬ d < 0 := by omega
  have hdf : decide (d < 0) = false := by simp; omega
  by_cases ht : a.tmod d < 0
  · have han : a < 0 := by
      apply Decidable.byContradiction; intro h; have := s1 (by omega); omega
    have hab : decide (a < 0) = true := by simpa using han
    have htn : (a.tmod d != 0) = true := by simp; omega
    clear s1 s2
    go_enter Try.func81, Try.ntmps81
    go_wp2
    go_ret
    exact ⟨ret_int (K1.out ht), rfl⟩
  · by_cases h0 : 0 ≤ a
    · have hab : decide (a < 0) = false := by simpa using h0
      have han : ¬ a < 0 := by omega
      clear s1 s2
      go_enter Try.func81, Try.ntmps81
      go_wp2
      all_goals (go_ret; exact ⟨ret_int (K2.out ht), rfl⟩)
    · have htn : (a.tmod d != 0) = false := by have := s2 (by omega); simp; omega
      clear s1 s2
      go_enter Try.func81, Try.ntmps81
      go_wp2
      all_goals (go_ret; exact ⟨ret_int (K2.out ht), rfl⟩)

theorem near_facts (v m : Int) (hv : -600000000 ≤ v ∧ v ≤ 600000000) (hm : 1 ≤ m ∧ m ≤ 16384) :
    (-600000001 ≤ v / m ∧ v / m ≤ 600000000) ∧ (-700000000 ≤ v / m * m ∧ v / m * m ≤ 700000000) ∧ v - v / m * m = v % m ∧ 0 ≤ v % m ∧ v % m < m := by
  have hb := Int.mul_ediv_add_emod v m
  have h2 := Int.emod_nonneg v (show m ≠ 0 by omega)
  have h3 := Int.emod_lt_of_pos v (show 0 < m by omega)
  have hc : v / m * m = v - v % m := by rw [Int.mul_comm]; omega
  have hd : -600000001 ≤ v / m ∧ v / m ≤ 600000000 := by
    constructor
    · apply Decidable.byContradiction; intro h
      have : m * (v / m) ≤ m * (-600000002) := Int.mul_le_mul_of_nonneg_left (by omega) (by omega)
      omega
    · apply Decidable.byContradiction; intro h
      have : m * 600000001 ≤ m * (v / m) := Int.mul_le_mul_of_nonneg_left (by omega) (by omega)
      omega
  omega

set_option maxHeartbeats 400000 in
theorem Near_any (v m : Int) (w : World) (hv : -600000000 ≤ v ∧ v ≤ 600000000) (hm : 1 ≤ m ∧ m ≤ 16384) :
    Calls Try.prog 79 #[.int .i64 v, .int .i64 m] w fun e w' => e = .returned (.int .i64 (rnd v m)) ∧ w = w' := by
  obtain ⟨⟨b1, b2⟩, ⟨b3, b4⟩, e, e1, e2⟩ := near_facts v m hv hm
  obtain ⟨q, hq⟩ : ∃ q, q = v / m := ⟨_, rfl⟩
  rw [← hq] at b1 b2 b3 b4 e
  have D := Lib.hid (show ∀ W, Calls Try.prog 81 #[.int .i64 v, .int .i64 m] W fun e w' => e = .returned (.int .i64 q) ∧ W = w' from fun W => hq ▸ Div_any v m W hv hm)
  have HQ := Lib.hid hq
  have e3 : 0 ≤ v - q * m ∧ v - q * m < m := by omega
  obtain ⟨e3, e4⟩ := e3
  clear hq e e1 e2
  obtain ⟨ha1, ha2⟩ := hv
  obtain ⟨hd1, hd2⟩ := hm
  go_enter Try.func79, Try.ntmps79
  go_wp2_with (go_at_call 81; refine (D.out _).mono ?_; rintro e w' ⟨rfl, rfl⟩)
  all_goals (go_ret; refine ⟨ret_int ?_, rfl⟩; go_light)
  all_goals first
    | (refine over_lo HQ.out (by omega) (by omega) ?_ rfl; first | exact .inl (by assumption) | exact .inr (by assumption))
    | (refine over_hi HQ.out (by omega) ?_ (by omega); first | exact .inl (by assumption) | exact .inr ⟨by assumption, by assumption⟩)

theorem run_max_int4 {P : Program} {w : World} (ts : Array TypeId) (t : TypeId) (k k' k'' k3 : IntKind) (x y z u : Int) :
    (Builtin.max_ ts t #[.int k x, .int k' y, .int k'' z, .int k3 u]).run P w = .ok (.int k (max (max (max x y) z) u)) w := by
  have h : ∀ a b : Int, (if a < b then b else a) = max a b := fun a b => by split <;> omega
  simp [Builtin.max_, Builtin.max2, h]
attribute [local go_sem] run_max_int4

theorem ref_count_no (x0 y0 cx cy x1 y1 : Int) (bent : Bool) (w : World) (h : edOK ⟨x0, y0, bent, cx, cy, x1, y1⟩ = false) :
    Calls Try.prog 24 #[.agg #[.int .i64 x0, .int .i64 y0, .bool bent, .int .i64 cx, .int .i64 cy, .int .i64 x1, .int .i64 y1]] w
      fun e w' => e = .returned (.int .i64 (cntI ⟨x0, y0, bent, cx, cy, x1, y1⟩)) ∧ Below w.heap.size w w' := by
  go_enter Try.func24, Try.ntmps24
  go_wp2_with (go_at_call 62; refine (IsEdge_any _ _ _ _ _ _ _ _).mono ?_; rintro e w' ⟨rfl, hb1⟩; obtain ⟨hc1, hf1⟩ := bcell hb1)
  go_ret
  exact ⟨ret_int (by rw [cntI_no h]), btr (bal (Below.refl _ _) _) hb1⟩

theorem ref_count_flat (x0 y0 cx cy x1 y1 : Int) (w : World) (h : edOK ⟨x0, y0, false, cx, cy, x1, y1⟩ = true) :
    Calls Try.prog 24 #[.agg #[.int .i64 x0, .int .i64 y0, .bool false, .int .i64 cx, .int .i64 cy, .int .i64 x1, .int .i64 y1]] w
      fun e w' => e = .returned (.int .i64 (cntI ⟨x0, y0, false, cx, cy, x1, y1⟩)) ∧ Below w.heap.size w w' := by
  go_enter Try.func24, Try.ntmps24
  go_wp2_with (go_at_call 62; refine (IsEdge_any _ _ _ _ _ _ _ _).mono ?_; rintro e w' ⟨rfl, hb1⟩; obtain ⟨hc1, hf1⟩ := bcell hb1)
  go_ret
  exact ⟨ret_int (by rw [cntI_flat h rfl]), btr (bal (Below.refl _ _) _) hb1⟩

set_option maxHeartbeats 800000 in
theorem ref_count_yes (x0 y0 cx cy x1 y1 : Int) (w : World) (h : edOK ⟨x0, y0, true, cx, cy, x1, y1⟩ = true) :
    Calls Try.prog 24 #[.agg #[.int .i64 x0, .int .i64 y0, .bool true, .int .i64 cx, .int .i64 cy, .int .i64 x1, .int .i64 y1]] w
      fun e w' => e = .returned (.int .i64 (cntI ⟨x0, y0, true, cx, cy, x1, y1⟩)) ∧ Below w.heap.size w w' := by
  have hd := edOK_iff.1 h
  simp only at hd
  obtain ⟨⟨d1, d2⟩, ⟨d3, d4⟩, ⟨d5, d6⟩, ⟨d7, d8⟩, ⟨d9, d10⟩, ⟨d11, d12⟩, _⟩ := hd
  go_enter Try.func24, Try.ntmps24
  go_wp2_with (go_at_call 62; refine (IsEdge_any _ _ _ _ _ _ _ _).mono ?_; rintro e w' ⟨rfl, hb1⟩; obtain ⟨hc1, hf1⟩ := bcell hb1)
  obtain ⟨far, hfar⟩ : ∃ far, far = max (x0 - 2 * cx + x1) (max (2 * cx - x0 - x1) (max (y0 - 2 * cy + y1) (2 * cy - y0 - y1))) := ⟨_, rfl⟩
  rw [← hfar]
  have hf2 : far = farI x0 y0 cx cy x1 y1 := by rw [hfar, farI, sizeI, sizeI]; omega
  have hf3 := farI_le h
  have hf4 : far ≤ 32764 := by omega
  have hcnt : cntI ⟨x0, y0, true, cx, cy, x1, y1⟩ = pw far := by rw [cntI_yes h rfl, hf2]
  have HC := Lib.hid hcnt
  clear hfar hf2 hf3 hcnt
  have hbw : Below w.heap.size w w' := btr (bal (Below.refl _ _) _) hb1
  clear hb1 hc1 hf1
  go_loop [4] (fun i => ∃ n : Int, i = .int .i64 n ∧ 1 ≤ n ∧ n ≤ 128 ∧ Hid ((n = 1 ∨ n = 2 ∨ n = 4 ∨ n = 8 ∨ n = 16 ∨ n = 32 ∨ n = 64 ∨ n = 128) ∧ n ≤ pw far)) (fun i => (128 - intOf i).toNat)
  case atStart => exact ⟨1, rfl, by omega, by omega, by simp, (pw_bd far).1⟩
  case round =>
    obtain ⟨n, rfl, hn1, hn2, hn3⟩ := hrel
    have hst := pw_step hn3.out.1 hf4 hn3.out.2
    have hnb := bd3 4 n n (by omega) (by omega) (by omega)
    obtain ⟨⟨e1, e2⟩, e3, e4⟩ := hnb
    obtain ⟨g1, g2⟩ := hst
    have G1 := Lib.hid g1
    have G2 := Lib.hid g2
    clear g1 g2
    by_cases ht : 4 * n * n < far
    · have hg : ((2 * n = 1 ∨ 2 * n = 2 ∨ 2 * n = 4 ∨ 2 * n = 8 ∨ 2 * n = 16 ∨ 2 * n = 32 ∨ 2 * n = 64 ∨ 2 * n = 128) ∧ 2 * n ≤ pw far) := by
        have := G1.out ht; omega
      have HG := Lib.hid hg
      have hg2 : 2 * n ≤ 128 := by have := (pw_bd far).2; omega
      clear hg
      go_wp2
      go_round
      case rel => exact ⟨2 * n, rfl, by omega, by omega, HG.out⟩
      case measure => simp [intOf]; omega
    · go_wp2
      go_ret
      exact ⟨ret_int (by rw [HC.out, G2.out ht]), hbw⟩

theorem ref_Count_is (x0 y0 cx cy x1 y1 n : Int) (bent : Bool) (w : World) (hn : cntI ⟨x0, y0, bent, cx, cy, x1, y1⟩ = n) :
    Calls Try.prog 24 #[.agg #[.int .i64 x0, .int .i64 y0, .bool bent, .int .i64 cx, .int .i64 cy, .int .i64 x1, .int .i64 y1]] w
      fun e w' => e = .returned (.int .i64 n) ∧ Below w.heap.size w w' := by
  subst hn
  rcases Bool.eq_false_or_eq_true (edOK ⟨x0, y0, bent, cx, cy, x1, y1⟩) with h | h
  · cases bent
    · exact ref_count_flat _ _ _ _ _ _ _ h
    · exact ref_count_yes _ _ _ _ _ _ _ h
  · exact ref_count_no _ _ _ _ _ _ _ _ h

theorem plc1_ref (a c b k n : Int) : a * ((n - k) * (n - k)) + c * (2 * k * (n - k)) + b * (k * k) = a * (n - k) * (n - k) + 2 * c * k * (n - k) + b * k * k := by grind

set_option maxHeartbeats 800000 in
theorem ref_Place_is (x0 y0 cx cy x1 y1 n k X Y : Int) (bent : Bool) (w : World)
    (h : edOK ⟨x0, y0, bent, cx, cy, x1, y1⟩ = true) (hn : 1 ≤ n ∧ n ≤ 128) (hk : 0 ≤ k ∧ k ≤ n) (hX : plc1 x0 cx x1 k n = X) (hY : plc1 y0 cy y1 k n = Y) :
    Calls Try.prog 63 #[.agg #[.int .i64 x0, .int .i64 y0, .bool bent, .int .i64 cx, .int .i64 cy, .int .i64 x1, .int .i64 y1], .int .i64 k, .int .i64 n] w
      fun e w' => e = .returned (.tuple #[.int .i64 X, .int .i64 Y]) ∧ Below w.heap.size w w' := by
  have hd := edOK_iff.1 h
  simp only at hd
  obtain ⟨d1, d3, d5, d7, d9, d11, _⟩ := hd
  have u : 0 ≤ (n - k) * (n - k) ∧ (n - k) * (n - k) ≤ 16384 := by
    have := mul_bd (A := 128) (B := 128) (a := n - k) (b := n - k) (by omega) (by omega)
    have := Int.mul_nonneg (a := n - k) (b := n - k) (by omega) (by omega)
    omega
  have v : 0 ≤ 2 * k * (n - k) ∧ 2 * k * (n - k) ≤ 32768 := by
    have := mul_bd (A := 256) (B := 128) (a := 2 * k) (b := n - k) (by omega) (by omega)
    have := Int.mul_nonneg (a := 2 * k) (b := n - k) (by omega) (by omega)
    omega
  have z : 0 ≤ k * k ∧ k * k ≤ 16384 := by
    have := mul_bd (A := 128) (B := 128) (a := k) (b := k) (by omega) (by omega)
    have := Int.mul_nonneg (a := k) (b := k) (by omega) (by omega)
    omega
  have v1 : 1 ≤ n * n ∧ n * n ≤ 16384 := by
    have a1 : 1 * n ≤ n * n := Int.mul_le_mul_of_nonneg_right hn.1 (by omega)
    have a2 : n * n ≤ 128 * n := Int.mul_le_mul_of_nonneg_right hn.2 (by omega)
    omega
  obtain ⟨p1, p2⟩ := mul_bd (A := 8191) (B := 16384) (a := x0) (b := (n - k) * (n - k)) (by omega) u
  obtain ⟨p3, p4⟩ := mul_bd (A := 8191) (B := 32768) (a := cx) (b := 2 * k * (n - k)) (by omega) v
  obtain ⟨p5, p6⟩ := mul_bd (A := 8191) (B := 16384) (a := x1) (b := k * k) (by omega) z
  obtain ⟨q1, q2⟩ := mul_bd (A := 8191) (B := 16384) (a := y0) (b := (n - k) * (n - k)) (by omega) u
  obtain ⟨q3, q4⟩ := mul_bd (A := 8191) (B := 32768) (a := cy) (b := 2 * k * (n - k)) (by omega) v
  obtain ⟨q5, q6⟩ := mul_bd (A := 8191) (B := 16384) (a := y1) (b := k * k) (by omega) z
  have NX := Lib.hid (show ∀ W, Calls Try.prog 79 #[.int .i64 (x0 * ((n - k) * (n - k)) + cx * (2 * k * (n - k)) + x1 * (k * k)), .int .i64 (n * n)] W fun e w' => e = .returned (.int .i64 X) ∧ W = w' from fun W => by
    have := Near_any (x0 * ((n - k) * (n - k)) + cx * (2 * k * (n - k)) + x1 * (k * k)) (n * n) W (by omega) v1
    rw [← hX]; unfold plc1; rw [← plc1_ref]; exact this)
  have NY := Lib.hid (show ∀ W, Calls Try.prog 79 #[.int .i64 (y0 * ((n - k) * (n - k)) + cy * (2 * k * (n - k)) + y1 * (k * k)), .int .i64 (n * n)] W fun e w' => e = .returned (.int .i64 Y) ∧ W = w' from fun W => by
    have := Near_any (y0 * ((n - k) * (n - k)) + cy * (2 * k * (n - k)) + y1 * (k * k)) (n * n) W (by omega) v1
    rw [← hY]; unfold plc1; rw [← plc1_ref]; exact this)
  obtain ⟨u1, u2⟩ := u
  obtain ⟨v11, v12⟩ := v
  obtain ⟨z1, z2⟩ := z
  obtain ⟨v13, v14⟩ := v1
  obtain ⟨d1, d2⟩ := d1
  obtain ⟨d3, d4⟩ := d3
  obtain ⟨d5, d6⟩ := d5
  obtain ⟨d7, d8⟩ := d7
  obtain ⟨d9, d10⟩ := d9
  obtain ⟨d11, d12⟩ := d11
  obtain ⟨hn1, hn2⟩ := hn
  obtain ⟨hk1, hk2⟩ := hk
  clear hX hY
  go_enter Try.func63, Try.ntmps63
  go_wp2
  go_quiet ((first | (go_at_call_of 79 x0; exact quiet_left (NX.out _)) | (go_at_call_of 79 y0; exact quiet_left (NY.out _))))
  go_wp2
  go_ret2
  exact ⟨rfl, bdrewN (bal (Below.refl _ _) _) _⟩

end Go.Proofs.Ytpompbpdhahljaa
