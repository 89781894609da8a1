/- wide.MulDiv of a number, 65536 and a number. -/
import Derived.Test.YtaadajadeemndaaWide1
namespace Go.Proofs.Ytaadajadeemndaa
open Go.RowKit Go.BigFrame

/-- Up, where what is left is more than a half, or a half and the quotient odd. -/
def upB (q r d : Nat) : Bool := decide (d - r < r) || (decide (r = d - r) && decide (q % 2 = 1))
/-- A size with its sign. -/
def sgnQ (q : Nat) (below : Bool) : Int × Bool := if below then (if q ≤ 9223372036854775808 then (-(q : Int), true) else (0, false)) else (if q < 9223372036854775808 then ((q : Int), true) else (0, false))
/-- a times 65536 by d, rounded. -/
def mdv (a d : Int) : Int × Bool :=
  if d = 0 ∨ d.natAbs ≤ a.natAbs * 65536 / 18446744073709551616 then (0, false)
  else if upB (a.natAbs * 65536 / d.natAbs) (a.natAbs * 65536 % d.natAbs) d.natAbs then
    (if a.natAbs * 65536 / d.natAbs + 1 = 18446744073709551616 then (0, false) else sgnQ (a.natAbs * 65536 / d.natAbs + 1) (decide (a < 0) != decide (d < 0)))
  else sgnQ (a.natAbs * 65536 / d.natAbs) (decide (a < 0) != decide (d < 0))
set_option maxRecDepth 100000 in
theorem wunder_any (a d : Int) (w : World) : Calls Try.prog 119 #[.int .i64 a, .int .i64 65536, .int .i64 d] w fun e w' => e = .returned (.bool (decide (a < 0) != decide (d < 0))) ∧ w = w' := by
  go_enter Try.func119, Try.ntmps119
  go_wp2
  go_ret
  refine ⟨ret_bool ?_, rfl⟩
  by_cases h1 : a < 0 <;> by_cases h2 : d < 0 <;> simp [h1, h2]
set_option maxRecDepth 100000 in
theorem wmore_any (q : Nat) (up : Bool) (w : World) (hq : q < 18446744073709551616) : Calls Try.prog 117 #[.int .u64 (q : Int), .bool up] w
    fun e w' => e = .returned (.tuple #[.int .u64 (if up then (if q + 1 = 18446744073709551616 then 0 else (q : Int) + 1) else (q : Int)), .bool (!up || !decide (q + 1 = 18446744073709551616))]) ∧ w = w' := by
  cases up
  · go_enter Try.func117, Try.ntmps117
    go_wp2
    go_ret2
    exact ⟨by simp, rfl⟩
  · by_cases h : q + 1 = 18446744073709551616
    · have e1 : IntKind.u64.wrap ((q : Int) + 1) = 0 := by rw [IntKind.wrap_u64]; omega
      go_enter Try.func117, Try.ntmps117
      go_wp2
      go_ret2
      refine ⟨?_, rfl⟩
      simp
    · have e1 : IntKind.u64.wrap ((q : Int) + 1) = (q : Int) + 1 := u64_in (by omega) (by omega)
      have e2 : ((q : Int) + 1 == 0) = false := by simp; omega
      go_enter Try.func117, Try.ntmps117
      go_wp2
      go_ret2
      refine ⟨?_, rfl⟩
      simp
      try omega
set_option maxRecDepth 100000 in
theorem wsigned_any (q : Nat) (below : Bool) (w : World) (hq : q < 18446744073709551616) : Calls Try.prog 118 #[.int .u64 (q : Int), .bool below] w
    fun e w' => e = .returned (.tuple #[.int .i64 (sgnQ q below).1, .bool (sgnQ q below).2]) ∧ w = w' := by
  obtain ⟨R, hR⟩ : ∃ R, sgnQ q below = R := ⟨_, rfl⟩
  have HR := Lib.hid hR
  rw [hR]
  clear hR
  have HQ := Lib.hid hq
  clear hq
  cases below
  · by_cases h : q < 9223372036854775808
    · have HR2 := Lib.hid (show R = ((q : Int), true) by rw [← HR.out]; simp [sgnQ, h])
      have f1 : decide ((q : Int) < 9223372036854775808) = true := decide_eq_true (by omega)
      have f2 : IntKind.i64.wrap (q : Int) = (q : Int) := IntWalk.i64_in _ (by omega)
      have f3 : decide (q < 9223372036854775808) = true := decide_eq_true h
      clear HR h
      go_enter Try.func118, Try.ntmps118
      go_wp2
      go_ret2
      rw [HR2.out]
      exact ⟨rfl, rfl⟩
    · have HR2 := Lib.hid (show R = (0, false) by rw [← HR.out]; simp [sgnQ, h])
      have f1 : decide ((q : Int) < 9223372036854775808) = false := decide_eq_false (by omega)
      have f3 : decide (q < 9223372036854775808) = false := decide_eq_false h
      clear HR h
      go_enter Try.func118, Try.ntmps118
      go_wp2
      go_ret2
      rw [HR2.out]
      exact ⟨rfl, rfl⟩
  · by_cases h : q ≤ 9223372036854775808
    · have HR2 := Lib.hid (show R = (-(q : Int), true) by rw [← HR.out]; simp [sgnQ, h])
      have e1 : IntKind.i64.wrap (IntKind.u64.wrap (-(q : Int))) = -(q : Int) := by
        rw [IntKind.wrap_u64]
        rcases Nat.eq_zero_or_pos q with rfl | hp
        · rfl
        · have : (-(q : Int)) % 18446744073709551616 = 18446744073709551616 - q := by omega
          rw [this, IntKind.wrap_i64]
          omega
      have f1 : decide ((q : Int) ≤ 9223372036854775808) = true := decide_eq_true (by omega)
      have f3 : decide (q ≤ 9223372036854775808) = true := decide_eq_true h
      clear HR h
      go_enter Try.func118, Try.ntmps118
      go_wp2
      go_ret2
      rw [HR2.out]
      exact ⟨rfl, rfl⟩
    · have HR2 := Lib.hid (show R = (0, false) by rw [← HR.out]; simp [sgnQ, h])
      have f1 : decide ((q : Int) ≤ 9223372036854775808) = false := decide_eq_false (by omega)
      have f3 : decide (q ≤ 9223372036854775808) = false := decide_eq_false h
      clear HR h
      go_enter Try.func118, Try.ntmps118
      go_wp2
      go_ret2
      rw [HR2.out]
      exact ⟨rfl, rfl⟩
end Go.Proofs.Ytaadajadeemndaa
