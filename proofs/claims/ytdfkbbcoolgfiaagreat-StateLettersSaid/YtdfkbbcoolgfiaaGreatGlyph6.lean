/- Letters' programs: a number. -/
import Derived.Test.YtdfkbbcoolgfiaaGreatGlyph1
namespace Go.Proofs.YtdfkbbcoolgfiaaGreat
open Go.RowKit

/-- The k-th byte. -/
def byt (s : ByteArray) (k : Nat) : Nat := (bl s)[k]?.getD 0
theorem byt_lt (s : ByteArray) (k : Nat) : byt s k < 256 := by
  unfold byt
  cases h : (bl s)[k]? with
  | none => simp
  | some b => exact bl_lt s b (List.mem_of_getElem? h)
theorem byt_get {s : ByteArray} {k : Nat} (h : k < s.size) : (s[k]'h).toNat = byt s k := by
  unfold byt; rw [bl_get s k h]; rfl
theorem run_byt {t : TypeId} {s : ByteArray} {k : Nat} {i : Int} (hi : i = (k : Int)) (hu : Tryz.prog.underlying t = some .string) (h : k < s.size) (W : World) : (Instr.index t (.string s) (.int .i64 i)).run Tryz.prog W = .ok (.int .u8 (byt s k : Int)) W := by
  subst hi
  rw [run_index_string (h := hu), dif_pos (by omega)]
  have e : (s[(k : Int).toNat]'(by omega)).toNat = byt s k := by
    rw [← byt_get h]; rfl
  rw [e]
theorem bl_one {s : ByteArray} (h : 0 < s.size) : bl s = byt s 0 :: (bl s).drop 1 := by
  have h0 : 0 < (bl s).length := by rw [bl_len]; exact h
  conv => lhs; rw [← List.drop_zero (l := bl s), List.drop_eq_getElem_cons h0]
  unfold byt
  rw [List.getElem?_eq_getElem h0]; rfl
theorem bl_two {s : ByteArray} (h : 1 < s.size) : bl s = byt s 0 :: byt s 1 :: (bl s).drop 2 := by
  have h0 : 1 < (bl s).length := by rw [bl_len]; exact h
  rw [bl_one (by omega)]
  congr 1
  rw [List.drop_eq_getElem_cons h0]
  unfold byt
  rw [List.getElem?_eq_getElem h0]; rfl
theorem bl_three {s : ByteArray} (h : 2 < s.size) : bl s = byt s 0 :: byt s 1 :: byt s 2 :: (bl s).drop 3 := by
  have h0 : 2 < (bl s).length := by rw [bl_len]; exact h
  rw [bl_two (by omega)]
  congr 2
  rw [List.drop_eq_getElem_cons h0]
  unfold byt
  rw [List.getElem?_eq_getElem h0]; rfl
theorem word_is {c d : Nat} (hc : c < 256) (hd : d < 256) : wrap64 (IntKind.i16.wrap (bits BinOp.or IntKind.u16 ((c : Int) * 256) (d : Int))) = i16 ((c : Int) * 256 + d) := by
  have e1 : ((c : Int) * 256) = ((c * 256 : Nat) : Int) := by simp
  have e2 : c * 256 ||| d = c * 256 + d := by
    have := Nat.shiftLeft_add_eq_or_of_lt (i := 8) (b := d) (by omega) c
    rw [Nat.shiftLeft_eq] at this
    exact this.symm
  rw [e1, u16_or_nat _ _ (by omega) (by omega), e2]
  have e3 : ((c * 256 + d : Nat) : Int) = (c : Int) * 256 + d := by simp
  rw [e3, ← e1]
  unfold i16 wrap64
  simp only [IntKind.wrap, IntKind.signed, IntKind.bits]
  simp
  split <;> omega
/-- What a number's reading answers. -/
def numR : Option (Int × Nat) → Value
  | none => .tuple #[.int .i64 0, .int .i64 0, .int .i64 4]
  | some (v, n) => .tuple #[.int .i64 v, .int .i64 (n : Int), .int .i64 0]

set_option maxHeartbeats 1000000 in
theorem number_any (s : ByteArray) (w : World) (h : 0 < s.size) (hmx : s.size ≤ 1000000) : Calls Tryz.prog 178 #[.string s] w fun e w' => e = .returned (numR (numG (bl s))) ∧ Below w.heap.size w w' := by
  have i0 := fun W => run_byt (t := 9) (s := s) (k := 0) (i := 0) rfl Tryz.underlying9 h W
  have hb := byt_lt s 0
  obtain ⟨b, hbb⟩ : ∃ b, b = byt s 0 := ⟨_, rfl⟩
  rw [← hbb] at i0 hb
  have hB := Lib.hid hbb
  clear hbb
  by_cases h1 : b ≤ 246
  · have hN := Lib.hid (show numG (bl s) = some ((b : Int) - 139, 1) by rw [bl_one h, ← hB.out]; simp only [numG]; rw [if_pos h1])
    go_enter Tryz.func178, Tryz.ntmps178
    go_wp2_with fail
    go_ret3
    rw [hN.out]
    exact ⟨rfl, Below.refl _ _⟩
  · by_cases h2 : b = 255
    · subst h2
      by_cases h3 : s.size < 3
      · have hN := Lib.hid (show numG (bl s) = none by
          rw [bl_one h, ← hB.out]; simp only [numG]; rw [if_neg (by decide), if_pos trivial]
          have hl : ((bl s).drop 1).length ≤ 1 := by rw [List.length_drop, bl_len]; omega
          match (bl s).drop 1, hl with
          | [], _ => rfl
          | [_], _ => rfl)
        have hd : decide ((s.size : Int) < 3) = true := by simp; omega
        go_enter Tryz.func178, Tryz.ntmps178
        go_wp2_with fail
        go_ret3
        rw [hN.out]
        exact ⟨rfl, Below.refl _ _⟩
      · have hd : decide ((s.size : Int) < 3) = false := by simp; omega
        have i1 := fun W => run_byt (t := 9) (s := s) (k := 1) (i := 1) rfl Tryz.underlying9 (by omega) W
        have i2 := fun W => run_byt (t := 9) (s := s) (k := 2) (i := 2) rfl Tryz.underlying9 (by omega) W
        have hc := byt_lt s 1
        have hd' := byt_lt s 2
        have hN0 : numG (bl s) = some (i16 ((byt s 1 : Int) * 256 + byt s 2), 3) := by
          rw [bl_three (by omega), ← hB.out]; simp only [numG]; rw [if_neg (by decide), if_pos trivial]
        obtain ⟨c, hcc⟩ : ∃ b, b = byt s 1 := ⟨_, rfl⟩
        obtain ⟨d, hdd⟩ : ∃ b, b = byt s 2 := ⟨_, rfl⟩
        rw [← hcc] at i1 hc hN0
        rw [← hdd] at i2 hd' hN0
        have hN := Lib.hid hN0
        clear hcc hdd hN0
        go_enter Tryz.func178, Tryz.ntmps178
        go_wp2_with fail
        go_quiet (fail)
        go_wp2_with fail
        go_ret3
        rw [hN.out]
        refine ⟨?_, bdrewN (Below.refl _ _) _⟩
        rw [word_is hc hd']
        rfl
    · have hb2 : ((b : Int) == 255) = false := by simp; omega
      have hb1 : decide ((b : Int) ≤ 246) = false := by simp; omega
      by_cases h3 : s.size < 2
      · have hN := Lib.hid (show numG (bl s) = none by
          rw [bl_one h, ← hB.out]; simp only [numG]; rw [if_neg (by omega), if_neg (by omega)]
          have hl : ((bl s).drop 1).length ≤ 0 := by rw [List.length_drop, bl_len]; omega
          rw [List.eq_nil_of_length_eq_zero (l := (bl s).drop 1) (by omega)])
        have hd : decide ((s.size : Int) < 2) = true := by simp; omega
        go_enter Tryz.func178, Tryz.ntmps178
        go_wp2_with fail
        go_ret3
        rw [hN.out]
        exact ⟨rfl, Below.refl _ _⟩
      · have hd : decide ((s.size : Int) < 2) = false := by simp; omega
        have i1 := fun W => run_byt (t := 9) (s := s) (k := 1) (i := 1) rfl Tryz.underlying9 (by omega) W
        have hc := byt_lt s 1
        have hN0 : numG (bl s) = some (if b ≤ 250 then 256 * ((b : Int) - 247) + (byt s 1 : Int) + 108 else -256 * ((b : Int) - 251) - (byt s 1 : Int) - 108, 2) := by
          rw [bl_two (by omega), ← hB.out]; simp only [numG]; rw [if_neg (by omega), if_neg (by omega)]
        obtain ⟨c, hcc⟩ : ∃ b, b = byt s 1 := ⟨_, rfl⟩
        rw [← hcc] at i1 hc hN0
        have hN := Lib.hid hN0
        clear hcc hN0
        by_cases h4 : b ≤ 250
        · have hb3 : decide ((b : Int) ≤ 250) = true := by simp; omega
          go_enter Tryz.func178, Tryz.ntmps178
          go_wp2_with fail
          go_ret3
          rw [hN.out, if_pos h4]
          exact ⟨rfl, Below.refl _ _⟩
        · have hb3 : decide ((b : Int) ≤ 250) = false := by simp; omega
          go_enter Tryz.func178, Tryz.ntmps178
          go_wp2_with fail
          go_ret3
          rw [hN.out, if_neg h4]
          exact ⟨rfl, Below.refl _ _⟩
end Go.Proofs.YtdfkbbcoolgfiaaGreat
