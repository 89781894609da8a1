/- The walk of PathAdds: it returns true. -/
import Derived.Test.YtpompbpdhahljaaKnown25
import Derived.Test.YtpompbpdhahljaaFlatSays
import Derived.Test.YtpompbpdhahljaaRefShift
namespace Go.Proofs.Ytpompbpdhahljaa
open Go.RowKit

theorem longL_len' {l m : List Sg} {E : List Sg × Int} (h : longL l m = E) : E.1.length ≤ 300 := by rw [← h]; exact longL_len l m
theorem startL_len {l : List Sg} {x y : Int} {E : List Sg × Int} (h : startL l x y = E) : E.1.length ≤ 300 := by
  rw [← h]; unfold startL; split
  · simp
  · split
    · simp
    · exact longL_len _ _
theorem onL_len {l : List Sg} {s : Sg} {E : List Sg × Int} (h : onL l s = E) : E.1.length ≤ 300 := by
  rw [← h]; unfold onL; split
  · simp
  · split
    · simp
    · split
      · simp
      · split <;> exact longL_len _ _
theorem shutL_len {l : List Sg} {E : List Sg × Int} (h : shutL l = E) : E.1.length ≤ 300 := by
  rw [← h]; unfold shutL; split
  · simp
  · split <;> exact longL_len _ _
theorem joinL_len {l m : List Sg} {E : List Sg × Int} (h : joinL l m = E) : E.1.length ≤ 300 := by
  rw [← h]; unfold joinL; split
  · simp
  · exact longL_len _ _
theorem shiftL_len {f g : Int → Int} {l : List Sg} {E : List Sg × Int} (h : shiftL f g l = E) : E.1.length ≤ 300 := by
  rw [← h]; unfold shiftL; split
  · simp
  · rename_i hm
    split
    · have := (mayB_from (show mayB l = true by simpa using hm)).2
      simpa using this
    · simp

set_option maxRecDepth 100000 in
set_option maxHeartbeats 8000000 in
theorem PathAdds_any (A : Option Addr) (n c : Nat) (l : List Sg) (B : Option Addr) (m d : Nat) (k : List Sg) (a b e f : Int) (w : World) (h1 : Sl w 5 A n (sgs l)) (hn : n ≤ 9223372036854775807) (hnc : n ≤ c) (h2 : Sl w 5 B m (sgs k)) (hm : m ≤ 9223372036854775807)
    (he : -9223372036854775808 ≤ e ∧ e ≤ 9223372036854775807) (hf : -9223372036854775808 ≤ f ∧ f ≤ 9223372036854775807) :
    Calls Try.prog 15 #[.slice A n c, .slice B m d, .agg #[.int .i64 a, .int .i64 b, .int .i64 e, .int .i64 f]] w fun e w' => e = .returned (.bool true) ∧ Below w.heap.size w w' := by
  obtain ⟨E1, hE1⟩ : ∃ E, startL l a b = E := ⟨_, rfl⟩
  obtain ⟨E2, hE2⟩ : ∃ E, onL l ⟨2, a, b, 0, 0⟩ = E := ⟨_, rfl⟩
  obtain ⟨E3, hE3⟩ : ∃ E, onL l ⟨3, e, f, a, b⟩ = E := ⟨_, rfl⟩
  obtain ⟨E4, hE4⟩ : ∃ E, shutL l = E := ⟨_, rfl⟩
  obtain ⟨E5, hE5⟩ : ∃ E, shiftL (ad e) (ad f) l = E := ⟨_, rfl⟩
  obtain ⟨E6, hE6⟩ : ∃ E, joinL l k = E := ⟨_, rfl⟩
  have hL1 := startL_len hE1
  have hL2 := onL_len hE2
  have hL3 := onL_len hE3
  have hL4 := shutL_len hE4
  have hL5 := shiftL_len hE5
  have hL6 := joinL_len hE6
  have HE1 := Lib.hid hE1
  have HE2 := Lib.hid hE2
  have HE3 := Lib.hid hE3
  have HE4 := Lib.hid hE4
  have HE5 := Lib.hid hE5
  have HE6 := Lib.hid hE6
  clear hE1 hE2 hE3 hE4 hE5 hE6
  go_enter Try.func15, Try.ntmps15
  go_wp2_with fail
  refine (known25_any _).mono ?_; rintro r w1 ⟨rfl, hb1⟩
  have hA1 : Below w.heap.size w w1 := btr (bal (Below.refl _ _) _) hb1
  have P1 := h1.below hA1
  have Q1 := h2.below hA1
  clear h1 h2
  go_wp2_with fail
  refine (Few_any _ _ _ _ hn).mono ?_; rintro r w2 ⟨rfl, rfl⟩
  by_cases hn3 : n ≤ 320
  rotate_left
  · have hd : decide ((n : Int) ≤ 320) = false := by simp; omega
    rw [hd]
    go_wp2
    go_ret
    exact ⟨rfl, hA1⟩
  have hd : decide ((n : Int) ≤ 320) = true := by simp; omega
  rw [hd]
  clear hd
  go_wp2_with fail
  refine (Few_any _ _ _ _ hm).mono ?_; rintro r w2 ⟨rfl, rfl⟩
  by_cases hm3 : m ≤ 320
  rotate_left
  · have hd : decide ((m : Int) ≤ 320) = false := by simp; omega
    rw [hd]
    go_wp2
    go_ret
    exact ⟨rfl, hA1⟩
  have hd : decide ((m : Int) ≤ 320) = true := by simp; omega
  rw [hd]
  clear hd
  have k0 : w1.cell? ⟨w.heap.size, 0, none⟩ = some (.int .i64 a) := (later_cell hb1 (by simp)).trans (new_cell _ 0)
  have k1 : w1.cell? ⟨w.heap.size, 1, none⟩ = some (.int .i64 b) := (later_cell hb1 (by simp)).trans (new_cell _ 1)
  have k2 : w1.cell? ⟨w.heap.size, 2, none⟩ = some (.int .i64 e) := (later_cell hb1 (by simp)).trans (new_cell _ 2)
  have k3 : w1.cell? ⟨w.heap.size, 3, none⟩ = some (.int .i64 f) := (later_cell hb1 (by simp)).trans (new_cell _ 3)
  go_wp2_with fail
  refine (Start_any _ _ _ a b l E1 _ (by omega) hnc P1 HE1.out).mono ?_; rintro r wa1 ⟨Aa1, ca1, rfl, hoa1, hba1⟩
  have Pa1 := P1.below hba1
  have Qa1 := Q1.below hba1
  have Ba1 := btr hb1 hba1
  have Sa1 := own_sl hoa1
  clear hoa1 hba1 P1 Q1 k0 k1 k2 k3
  have k0 : wa1.cell? ⟨w.heap.size, 0, none⟩ = some (.int .i64 a) := (later_cell Ba1 (by simp)).trans (new_cell _ 0)
  have k1 : wa1.cell? ⟨w.heap.size, 1, none⟩ = some (.int .i64 b) := (later_cell Ba1 (by simp)).trans (new_cell _ 1)
  have k2 : wa1.cell? ⟨w.heap.size, 2, none⟩ = some (.int .i64 e) := (later_cell Ba1 (by simp)).trans (new_cell _ 2)
  have k3 : wa1.cell? ⟨w.heap.size, 3, none⟩ = some (.int .i64 f) := (later_cell Ba1 (by simp)).trans (new_cell _ 3)
  go_wp2_with fail
  refine (ref_Start_any _ _ _ a b l E1 _ (by omega) hnc Pa1 HE1.out).mono ?_; rintro r wb1 ⟨Ab1, cb1, rfl, hob1, hbb1⟩
  have Pb1 := Pa1.below hbb1
  have Qb1 := Qa1.below hbb1
  have Bb1 := btr Ba1 hbb1
  have Sb1 := own_sl hob1
  have Sc1 := Sa1.below hbb1
  clear hob1 hbb1 Pa1 Qa1 Ba1 Sa1 k0 k1 k2 k3
  go_wp2_with fail
  refine (sameSg_any _ _ _ _ _ _ E1.1 _ (by omega) Sc1 Sb1).mono ?_; rintro r wc1 ⟨rfl, q1, rfl⟩
  have P2 := Pb1.drewN q1
  have Q2 := Qb1.drewN q1
  have B2 := bdrewN Bb1 q1
  clear Pb1 Qb1 Bb1 Sc1 Sb1
  generalize hwq : wb1.drewN q1 = w2 at *
  clear hwq
  have k0 : w2.cell? ⟨w.heap.size, 0, none⟩ = some (.int .i64 a) := (later_cell B2 (by simp)).trans (new_cell _ 0)
  have k1 : w2.cell? ⟨w.heap.size, 1, none⟩ = some (.int .i64 b) := (later_cell B2 (by simp)).trans (new_cell _ 1)
  have k2 : w2.cell? ⟨w.heap.size, 2, none⟩ = some (.int .i64 e) := (later_cell B2 (by simp)).trans (new_cell _ 2)
  have k3 : w2.cell? ⟨w.heap.size, 3, none⟩ = some (.int .i64 f) := (later_cell B2 (by simp)).trans (new_cell _ 3)
  go_wp2_with fail
  refine (Line_any _ _ _ a b l E2 _ (by omega) P2 HE2.out).mono ?_; rintro r wa2 ⟨Aa2, ca2, rfl, hoa2, hba2⟩
  have Pa2 := P2.below hba2
  have Qa2 := Q2.below hba2
  have Ba2 := btr B2 hba2
  have Sa2 := own_sl hoa2
  clear hoa2 hba2 P2 Q2 k0 k1 k2 k3
  have k0 : wa2.cell? ⟨w.heap.size, 0, none⟩ = some (.int .i64 a) := (later_cell Ba2 (by simp)).trans (new_cell _ 0)
  have k1 : wa2.cell? ⟨w.heap.size, 1, none⟩ = some (.int .i64 b) := (later_cell Ba2 (by simp)).trans (new_cell _ 1)
  have k2 : wa2.cell? ⟨w.heap.size, 2, none⟩ = some (.int .i64 e) := (later_cell Ba2 (by simp)).trans (new_cell _ 2)
  have k3 : wa2.cell? ⟨w.heap.size, 3, none⟩ = some (.int .i64 f) := (later_cell Ba2 (by simp)).trans (new_cell _ 3)
  go_wp2_with fail
  refine (ref_Add_any _ _ _ l ⟨2, a, b, 0, 0⟩ E2 _ (by omega) Pa2 HE2.out).mono ?_; rintro r wb2 ⟨Ab2, cb2, rfl, hob2, hbb2⟩
  have Pb2 := Pa2.below hbb2
  have Qb2 := Qa2.below hbb2
  have Bb2 := btr Ba2 hbb2
  have Sb2 := own_sl hob2
  have Sc2 := Sa2.below hbb2
  clear hob2 hbb2 Pa2 Qa2 Ba2 Sa2 k0 k1 k2 k3
  go_wp2_with fail
  refine (sameSg_any _ _ _ _ _ _ E2.1 _ (by omega) Sc2 Sb2).mono ?_; rintro r wc2 ⟨rfl, q2, rfl⟩
  have P3 := Pb2.drewN q2
  have Q3 := Qb2.drewN q2
  have B3 := bdrewN Bb2 q2
  clear Pb2 Qb2 Bb2 Sc2 Sb2
  generalize hwq : wb2.drewN q2 = w3 at *
  clear hwq
  have k0 : w3.cell? ⟨w.heap.size, 0, none⟩ = some (.int .i64 a) := (later_cell B3 (by simp)).trans (new_cell _ 0)
  have k1 : w3.cell? ⟨w.heap.size, 1, none⟩ = some (.int .i64 b) := (later_cell B3 (by simp)).trans (new_cell _ 1)
  have k2 : w3.cell? ⟨w.heap.size, 2, none⟩ = some (.int .i64 e) := (later_cell B3 (by simp)).trans (new_cell _ 2)
  have k3 : w3.cell? ⟨w.heap.size, 3, none⟩ = some (.int .i64 f) := (later_cell B3 (by simp)).trans (new_cell _ 3)
  go_wp2_with fail
  refine (Bow_any _ _ _ a b e f l E3 _ (by omega) P3 HE3.out).mono ?_; rintro r wa3 ⟨Aa3, ca3, rfl, hoa3, hba3⟩
  have Pa3 := P3.below hba3
  have Qa3 := Q3.below hba3
  have Ba3 := btr B3 hba3
  have Sa3 := own_sl hoa3
  clear hoa3 hba3 P3 Q3 k0 k1 k2 k3
  have k0 : wa3.cell? ⟨w.heap.size, 0, none⟩ = some (.int .i64 a) := (later_cell Ba3 (by simp)).trans (new_cell _ 0)
  have k1 : wa3.cell? ⟨w.heap.size, 1, none⟩ = some (.int .i64 b) := (later_cell Ba3 (by simp)).trans (new_cell _ 1)
  have k2 : wa3.cell? ⟨w.heap.size, 2, none⟩ = some (.int .i64 e) := (later_cell Ba3 (by simp)).trans (new_cell _ 2)
  have k3 : wa3.cell? ⟨w.heap.size, 3, none⟩ = some (.int .i64 f) := (later_cell Ba3 (by simp)).trans (new_cell _ 3)
  go_wp2_with fail
  refine (ref_Add_any _ _ _ l ⟨3, e, f, a, b⟩ E3 _ (by omega) Pa3 HE3.out).mono ?_; rintro r wb3 ⟨Ab3, cb3, rfl, hob3, hbb3⟩
  have Pb3 := Pa3.below hbb3
  have Qb3 := Qa3.below hbb3
  have Bb3 := btr Ba3 hbb3
  have Sb3 := own_sl hob3
  have Sc3 := Sa3.below hbb3
  clear hob3 hbb3 Pa3 Qa3 Ba3 Sa3 k0 k1 k2 k3
  go_wp2_with fail
  refine (sameSg_any _ _ _ _ _ _ E3.1 _ (by omega) Sc3 Sb3).mono ?_; rintro r wc3 ⟨rfl, q3, rfl⟩
  have P4 := Pb3.drewN q3
  have Q4 := Qb3.drewN q3
  have B4 := bdrewN Bb3 q3
  clear Pb3 Qb3 Bb3 Sc3 Sb3
  generalize hwq : wb3.drewN q3 = w4 at *
  clear hwq
  have k0 : w4.cell? ⟨w.heap.size, 0, none⟩ = some (.int .i64 a) := (later_cell B4 (by simp)).trans (new_cell _ 0)
  have k1 : w4.cell? ⟨w.heap.size, 1, none⟩ = some (.int .i64 b) := (later_cell B4 (by simp)).trans (new_cell _ 1)
  have k2 : w4.cell? ⟨w.heap.size, 2, none⟩ = some (.int .i64 e) := (later_cell B4 (by simp)).trans (new_cell _ 2)
  have k3 : w4.cell? ⟨w.heap.size, 3, none⟩ = some (.int .i64 f) := (later_cell B4 (by simp)).trans (new_cell _ 3)
  go_wp2_with fail
  refine (Shut_any _ _ _ l E4 _ (by omega) P4 HE4.out).mono ?_; rintro r wa4 ⟨Aa4, ca4, rfl, hoa4, hba4⟩
  have Pa4 := P4.below hba4
  have Qa4 := Q4.below hba4
  have Ba4 := btr B4 hba4
  have Sa4 := own_sl hoa4
  clear hoa4 hba4 P4 Q4 k0 k1 k2 k3
  have k0 : wa4.cell? ⟨w.heap.size, 0, none⟩ = some (.int .i64 a) := (later_cell Ba4 (by simp)).trans (new_cell _ 0)
  have k1 : wa4.cell? ⟨w.heap.size, 1, none⟩ = some (.int .i64 b) := (later_cell Ba4 (by simp)).trans (new_cell _ 1)
  have k2 : wa4.cell? ⟨w.heap.size, 2, none⟩ = some (.int .i64 e) := (later_cell Ba4 (by simp)).trans (new_cell _ 2)
  have k3 : wa4.cell? ⟨w.heap.size, 3, none⟩ = some (.int .i64 f) := (later_cell Ba4 (by simp)).trans (new_cell _ 3)
  go_wp2_with fail
  refine (ref_Shut_any _ _ _ l E4 _ (by omega) Pa4 HE4.out).mono ?_; rintro r wb4 ⟨Ab4, cb4, rfl, hob4, hbb4⟩
  have Pb4 := Pa4.below hbb4
  have Qb4 := Qa4.below hbb4
  have Bb4 := btr Ba4 hbb4
  have Sb4 := own_sl hob4
  have Sc4 := Sa4.below hbb4
  clear hob4 hbb4 Pa4 Qa4 Ba4 Sa4 k0 k1 k2 k3
  go_wp2_with fail
  refine (sameSg_any _ _ _ _ _ _ E4.1 _ (by omega) Sc4 Sb4).mono ?_; rintro r wc4 ⟨rfl, q4, rfl⟩
  have P5 := Pb4.drewN q4
  have Q5 := Qb4.drewN q4
  have B5 := bdrewN Bb4 q4
  clear Pb4 Qb4 Bb4 Sc4 Sb4
  generalize hwq : wb4.drewN q4 = w5 at *
  clear hwq
  have k0 : w5.cell? ⟨w.heap.size, 0, none⟩ = some (.int .i64 a) := (later_cell B5 (by simp)).trans (new_cell _ 0)
  have k1 : w5.cell? ⟨w.heap.size, 1, none⟩ = some (.int .i64 b) := (later_cell B5 (by simp)).trans (new_cell _ 1)
  have k2 : w5.cell? ⟨w.heap.size, 2, none⟩ = some (.int .i64 e) := (later_cell B5 (by simp)).trans (new_cell _ 2)
  have k3 : w5.cell? ⟨w.heap.size, 3, none⟩ = some (.int .i64 f) := (later_cell B5 (by simp)).trans (new_cell _ 3)
  go_wp2_with fail
  refine (Shift_any _ _ _ e f l E5 _ (by omega) P5 HE5.out).mono ?_; rintro r wa5 ⟨Aa5, ca5, rfl, hoa5, hba5⟩
  have Pa5 := P5.below hba5
  have Qa5 := Q5.below hba5
  have Ba5 := btr B5 hba5
  have Sa5 := own_sl hoa5
  clear hoa5 hba5 P5 Q5 k0 k1 k2 k3
  have k0 : wa5.cell? ⟨w.heap.size, 0, none⟩ = some (.int .i64 a) := (later_cell Ba5 (by simp)).trans (new_cell _ 0)
  have k1 : wa5.cell? ⟨w.heap.size, 1, none⟩ = some (.int .i64 b) := (later_cell Ba5 (by simp)).trans (new_cell _ 1)
  have k2 : wa5.cell? ⟨w.heap.size, 2, none⟩ = some (.int .i64 e) := (later_cell Ba5 (by simp)).trans (new_cell _ 2)
  have k3 : wa5.cell? ⟨w.heap.size, 3, none⟩ = some (.int .i64 f) := (later_cell Ba5 (by simp)).trans (new_cell _ 3)
  go_wp2_with fail
  refine (ref_Shift_any _ _ _ e f l E5 _ (by omega) he hf Pa5 HE5.out).mono ?_; rintro r wb5 ⟨Ab5, cb5, rfl, hob5, hbb5⟩
  have Pb5 := Pa5.below hbb5
  have Qb5 := Qa5.below hbb5
  have Bb5 := btr Ba5 hbb5
  have Sb5 := own_sl hob5
  have Sc5 := Sa5.below hbb5
  clear hob5 hbb5 Pa5 Qa5 Ba5 Sa5 k0 k1 k2 k3
  go_wp2_with fail
  refine (sameSg_any _ _ _ _ _ _ E5.1 _ (by omega) Sc5 Sb5).mono ?_; rintro r wc5 ⟨rfl, q5, rfl⟩
  have P6 := Pb5.drewN q5
  have Q6 := Qb5.drewN q5
  have B6 := bdrewN Bb5 q5
  clear Pb5 Qb5 Bb5 Sc5 Sb5
  generalize hwq : wb5.drewN q5 = w6 at *
  clear hwq
  have k0 : w6.cell? ⟨w.heap.size, 0, none⟩ = some (.int .i64 a) := (later_cell B6 (by simp)).trans (new_cell _ 0)
  have k1 : w6.cell? ⟨w.heap.size, 1, none⟩ = some (.int .i64 b) := (later_cell B6 (by simp)).trans (new_cell _ 1)
  have k2 : w6.cell? ⟨w.heap.size, 2, none⟩ = some (.int .i64 e) := (later_cell B6 (by simp)).trans (new_cell _ 2)
  have k3 : w6.cell? ⟨w.heap.size, 3, none⟩ = some (.int .i64 f) := (later_cell B6 (by simp)).trans (new_cell _ 3)
  go_wp2_with fail
  refine (Join_any _ _ _ _ _ _ l k E6 _ (by omega) (by omega) hnc P6 Q6 HE6.out).mono ?_; rintro r wa6 ⟨Aa6, ca6, rfl, hoa6, hba6⟩
  have Pa6 := P6.below hba6
  have Qa6 := Q6.below hba6
  have Ba6 := btr B6 hba6
  have Sa6 := own_sl hoa6
  clear hoa6 hba6 P6 Q6 k0 k1 k2 k3
  have k0 : wa6.cell? ⟨w.heap.size, 0, none⟩ = some (.int .i64 a) := (later_cell Ba6 (by simp)).trans (new_cell _ 0)
  have k1 : wa6.cell? ⟨w.heap.size, 1, none⟩ = some (.int .i64 b) := (later_cell Ba6 (by simp)).trans (new_cell _ 1)
  have k2 : wa6.cell? ⟨w.heap.size, 2, none⟩ = some (.int .i64 e) := (later_cell Ba6 (by simp)).trans (new_cell _ 2)
  have k3 : wa6.cell? ⟨w.heap.size, 3, none⟩ = some (.int .i64 f) := (later_cell Ba6 (by simp)).trans (new_cell _ 3)
  go_wp2_with fail
  refine (ref_Join_any _ _ _ _ _ _ l k E6 _ (by omega) (by omega) hnc Pa6 Qa6 HE6.out).mono ?_; rintro r wb6 ⟨Ab6, cb6, rfl, hob6, hbb6⟩
  have Pb6 := Pa6.below hbb6
  have Qb6 := Qa6.below hbb6
  have Bb6 := btr Ba6 hbb6
  have Sb6 := own_sl hob6
  have Sc6 := Sa6.below hbb6
  clear hob6 hbb6 Pa6 Qa6 Ba6 Sa6 k0 k1 k2 k3
  go_wp2_with fail
  refine (sameSg_any _ _ _ _ _ _ E6.1 _ (by omega) Sc6 Sb6).mono ?_; rintro r wc6 ⟨rfl, q6, rfl⟩
  have P7 := Pb6.drewN q6
  have Q7 := Qb6.drewN q6
  have B7 := bdrewN Bb6 q6
  clear Pb6 Qb6 Bb6 Sc6 Sb6
  generalize hwq : wb6.drewN q6 = w7 at *
  clear hwq
  have k0 : w7.cell? ⟨w.heap.size, 0, none⟩ = some (.int .i64 a) := (later_cell B7 (by simp)).trans (new_cell _ 0)
  have k1 : w7.cell? ⟨w.heap.size, 1, none⟩ = some (.int .i64 b) := (later_cell B7 (by simp)).trans (new_cell _ 1)
  have k2 : w7.cell? ⟨w.heap.size, 2, none⟩ = some (.int .i64 e) := (later_cell B7 (by simp)).trans (new_cell _ 2)
  have k3 : w7.cell? ⟨w.heap.size, 3, none⟩ = some (.int .i64 f) := (later_cell B7 (by simp)).trans (new_cell _ 3)
  go_wp2
  go_ret
  exact ⟨by simp, btr (bal (Below.refl _ _) _) B7⟩

end Go.Proofs.Ytpompbpdhahljaa
