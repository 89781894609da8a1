/- The reference's Number: a number's bytes. -/
import Derived.Test.YtemnjccgikfddaaGlyph12
import Derived.Test.YtemnjccgikfddaaAllP
namespace Go.Proofs.Ytemnjccgikfddaa
open Go.RowKit Go.BigFrame

theorem bl_inj {a b : ByteArray} (h : bl a = bl b) : a = b := by
  have h1 : a.data.toList = b.data.toList := by
    unfold bl at h
    exact (List.map_inj_right (fun x y hxy => UInt8.toNat_inj.1 hxy)).1 h
  have h2 : a.data = b.data := Array.toList_inj.1 h1
  cases a; cases b; simp only at h2; rw [h2]
theorem litN1 (W : World) (a : Int) : (convert 41 9 (.slice (some ⟨W.heap.size, 0, none⟩) 1 1)).run Try.prog (W.alloc (.cells #[.int .u8 a] 5)) = .ok (.string (strOfNums [a])) (W.alloc (.cells #[.int .u8 a] 5)) := lit_str W [a] 1 rfl
theorem litN2 (W : World) (a b : Int) : (convert 41 9 (.slice (some ⟨W.heap.size, 0, none⟩) 2 2)).run Try.prog (W.alloc (.cells #[.int .u8 a, .int .u8 b] 5)) = .ok (.string (strOfNums [a, b])) (W.alloc (.cells #[.int .u8 a, .int .u8 b] 5)) := lit_str W [a, b] 2 rfl
theorem litN3 (W : World) (a b c : Int) : (convert 41 9 (.slice (some ⟨W.heap.size, 0, none⟩) 3 3)).run Try.prog (W.alloc (.cells #[.int .u8 a, .int .u8 b, .int .u8 c] 5)) = .ok (.string (strOfNums [a, b, c])) (W.alloc (.cells #[.int .u8 a, .int .u8 b, .int .u8 c] 5)) := lit_str W [a, b, c] 3 rfl
theorem u8w (z : Int) : IntKind.u8.wrap z = z % 256 := by simp [IntKind.wrap, IntKind.bits, IntKind.signed]
theorem u16w (z : Int) : IntKind.u16.wrap z = z % 65536 := by simp [IntKind.wrap, IntKind.bits, IntKind.signed]
theorem and255 {z : Int} (h : 0 ≤ z ∧ z < 65536) : bits .and .u16 z 255 = z % 256 := by
  obtain ⟨n, rfl⟩ := Int.eq_ofNat_of_zero_le h.1
  rw [show (255 : Int) = ((255 : Nat) : Int) from rfl, u16_and_nat n 255 (by omega) (by omega)]
  rw [show (255 : Nat) = 2 ^ 8 - 1 from rfl, Nat.and_two_pow_sub_one_eq_mod]
  simp
set_option maxRecDepth 100000 in
set_option maxHeartbeats 1000000 in
theorem Number_any (v : Int) (w : World) (hv : -32768 ≤ v ∧ v ≤ 32767) :
    Calls Try.prog 25 #[.int .i64 v] w fun e w' => ∃ s : ByteArray, e = .returned (.string s) ∧ bl s = putG v ∧ Below w.heap.size w w' := by
  have l1 := litN1
  have l2 := litN2
  have l3 := litN3
  by_cases h1 : -107 ≤ v ∧ v ≤ 107
  · have q0 : IntKind.u8.wrap (v + 139) = v + 139 := by rw [u8w]; omega
    have HR := Lib.hid (show bl (strOfNums [v + 139]) = putG v by unfold putG; rw [if_pos h1, bl_nums (by intro x hx; simp at hx; omega)]; rfl)
    obtain ⟨a1, a2⟩ := h1
    go_enter Try.func25, Try.ntmps25
    go_wp2
    go_ret
    exact ⟨_, rfl, HR.out, bal (Below.refl _ _) _⟩
  · by_cases h2 : 108 ≤ v ∧ v ≤ 1131
    · have g1 : decide (v ≥ -107) = true := by simp; omega
      have g2 : decide (v ≤ 107) = false := by simp; omega
      have t1 : (v - 108).tdiv 256 = (v - 108) / 256 := Int.tdiv_eq_ediv_of_nonneg (by omega)
      have t2 : (v - 108).tmod 256 = (v - 108) % 256 := Int.tmod_eq_emod_of_nonneg (by omega)
      have q1 : IntKind.u8.wrap (247 + (v - 108) / 256) = 247 + (v - 108) / 256 := by rw [u8w]; omega
      have q2 : IntKind.u8.wrap ((v - 108) % 256) = (v - 108) % 256 := by rw [u8w]; omega
      have HR := Lib.hid (show bl (strOfNums [247 + (v - 108) / 256, (v - 108) % 256]) = putG v by unfold putG; rw [if_neg h1, if_pos h2, bl_nums (by intro x hx; simp at hx; omega)]; rfl)
      obtain ⟨a1, a2⟩ := h2
      go_enter Try.func25, Try.ntmps25
      go_wp2
      go_ret
      exact ⟨_, rfl, HR.out, bal (Below.refl _ _) _⟩
    · by_cases h3 : -1131 ≤ v ∧ v ≤ -108
      · have g1 : decide (v ≥ -107) = false := by simp; omega
        have g2 : decide (v ≥ 108) = false := by simp; omega
        have t1 : (-v - 108).tdiv 256 = (-v - 108) / 256 := Int.tdiv_eq_ediv_of_nonneg (by omega)
        have t2 : (-v - 108).tmod 256 = (-v - 108) % 256 := Int.tmod_eq_emod_of_nonneg (by omega)
        have q1 : IntKind.u8.wrap (251 + (-v - 108) / 256) = 251 + (-v - 108) / 256 := by rw [u8w]; omega
        have q2 : IntKind.u8.wrap ((-v - 108) % 256) = (-v - 108) % 256 := by rw [u8w]; omega
        have HR := Lib.hid (show bl (strOfNums [251 + (-v - 108) / 256, (-v - 108) % 256]) = putG v by unfold putG; rw [if_neg h1, if_neg h2, if_pos h3, bl_nums (by intro x hx; simp at hx; omega)]; rfl)
        obtain ⟨a1, a2⟩ := h3
        go_enter Try.func25, Try.ntmps25
        go_wp2
        go_ret
        exact ⟨_, rfl, HR.out, bal (Below.refl _ _) _⟩
      · have hz : 1131 < v ∨ v < -1131 := by omega
        have q0 : IntKind.u16.wrap v = v % 65536 := u16w v
        have q1 : bits .and .u16 (v % 65536) 255 = v % 256 := by rw [and255 (by omega)]; omega
        have q2 : IntKind.u8.wrap (v % 256) = v % 256 := by rw [u8w]; omega
        have q3 : IntKind.u8.wrap (v % 65536 / 256) = v / 256 % 256 := by rw [u8w]; omega
        have HR := Lib.hid (show bl (strOfNums [255, v / 256 % 256, v % 256]) = putG v by unfold putG; rw [if_neg h1, if_neg h2, if_neg h3, bl_nums (by intro x hx; simp at hx; omega)]; rfl)
        rcases hz with hz | hz
        · have g1 : decide (v ≥ -107) = true := by simp; omega
          have g2 : decide (v ≤ 107) = false := by simp; omega
          have g3 : decide (v ≥ 108) = true := by simp; omega
          have g4 : decide (v ≤ 1131) = false := by simp; omega
          have g5 : decide (v ≥ -1131) = true := by simp; omega
          have g6 : decide (v ≤ -108) = false := by simp; omega
          go_enter Try.func25, Try.ntmps25
          go_wp2
          go_ret
          exact ⟨_, rfl, HR.out, bal (Below.refl _ _) _⟩
        · have g1 : decide (v ≥ -107) = false := by simp; omega
          have g3 : decide (v ≥ 108) = false := by simp; omega
          have g5 : decide (v ≥ -1131) = false := by simp; omega
          go_enter Try.func25, Try.ntmps25
          go_wp2
          go_ret
          exact ⟨_, rfl, HR.out, bal (Below.refl _ _) _⟩
end Go.Proofs.Ytemnjccgikfddaa
