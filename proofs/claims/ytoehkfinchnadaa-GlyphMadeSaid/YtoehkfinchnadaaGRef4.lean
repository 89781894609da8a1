/- The reference's machine: what an operator takes; a path more; the width. -/
import Derived.Test.YtoehkfinchnadaaGRef3
import Derived.Test.YtoehkfinchnadaaRefAdd2
namespace Go.Proofs.Ytoehkfinchnadaa
open Go.RowKit Go.BigFrame

def takesR (b : Nat) : Int := if b = 1 ∨ b = 5 ∨ b = 6 then 1 else if b = 2 ∨ b = 3 then 2 else if b = 4 then 4 else if b = 7 ∨ b = 10 then 0 else if b = 8 ∨ b = 9 ∨ b = 11 then -1 else -2
/-- What is wrong with so many numbers. -/
def cntE (b m : Nat) : Int :=
  if takesR b = -2 then 3 else if (b = 8 ∧ m = 0) ∨ (b = 11 ∧ (m = 0 ∨ m % 2 = 1)) ∨ (0 ≤ takesR b ∧ (m : Int) < takesR b) then 7 else if 0 ≤ takesR b ∧ takesR b < (m : Int) then 8 else 0
theorem byte_cases {b : Nat} (hb : b < 32) : b = 0 ∨ b = 1 ∨ b = 2 ∨ b = 3 ∨ b = 4 ∨ b = 5 ∨ b = 6 ∨ b = 7 ∨ b = 8 ∨ b = 9 ∨ b = 10 ∨ b = 11 ∨ 12 ≤ b := by omega
set_option maxRecDepth 100000 in
theorem Takes_any (b : Nat) (w : World) (hb : b < 32) : Calls Try.prog 32 #[.int .i64 (b : Int)] w fun e w' => e = .returned (.int .i64 (takesR b)) ∧ w = w' := by
  rcases byte_cases hb with rfl | rfl | rfl | rfl | rfl | rfl | rfl | rfl | rfl | rfl | rfl | rfl | h12
  case inr.inr.inr.inr.inr.inr.inr.inr.inr.inr.inr.inr =>
    have h0 : takesR b = -2 := by unfold takesR; rw [if_neg (by omega), if_neg (by omega), if_neg (by omega), if_neg (by omega), if_neg (by omega)]
    have e1 : ((b : Int) == 1) = false := by simp; omega
    have e2 : ((b : Int) == 2) = false := by simp; omega
    have e3 : ((b : Int) == 3) = false := by simp; omega
    have e4 : ((b : Int) == 4) = false := by simp; omega
    have e5 : ((b : Int) == 5) = false := by simp; omega
    have e6 : ((b : Int) == 6) = false := by simp; omega
    have e7 : ((b : Int) == 7) = false := by simp; omega
    have e8 : ((b : Int) == 8) = false := by simp; omega
    have e9 : ((b : Int) == 9) = false := by simp; omega
    have e10 : ((b : Int) == 10) = false := by simp; omega
    have e11 : ((b : Int) == 11) = false := by simp; omega
    go_enter Try.func32, Try.ntmps32
    go_wp2
    go_ret
    rw [h0]
    exact ⟨rfl, rfl⟩
  all_goals
    go_enter Try.func32, Try.ntmps32
    go_wp2
    go_ret
    exact ⟨rfl, rfl⟩
section
variable {w w' : World} {g : Nat} {P : List ByteArray} {main : ByteArray} {F F0 : List (Int × Nat)} {M : GM} {er : Int}
set_option maxRecDepth 100000 in
set_option maxHeartbeats 1000000 in
theorem counted_any (b : Nat) (hb : b < 32) (h : RM w g P main F M er) (h24 : M.wait.length ≤ 24) :
    Calls Try.prog 25 #[.pointer (some ⟨g, 0, none⟩), .int .i64 (b : Int)] w fun e w' => e = .returned (.tuple #[]) ∧ RM w' g P main F M (if er = 0 then cntE b M.wait.length else er) ∧ Below g w w' := by
  have HRM := Lib.hid h
  obtain ⟨ρ, Ap, cp, Ai, ci, Aa, ca, Aw, cw, Al, cl, hM⟩ := h
  have c4 := hM.rc.c 4 _ rfl
  have hlt := hM.rc.lt
  obtain ⟨m, hm⟩ : ∃ m, M.wait.length = m := ⟨_, rfl⟩
  rw [hm] at c4 h24 ⊢
  have HM := Lib.hid hm
  obtain ⟨R, hR⟩ : ∃ R, (if er = 0 then cntE b m else er) = R := ⟨_, rfl⟩
  rw [hR]
  have HR := Lib.hid hR
  have HT := Lib.hid fun W => Takes_any b W hb
  have HW := Lib.hid fun e1 W (h : RM W g P main F M er) => wrong_any e1 h
  clear hM hm hR
  obtain ⟨t, ht⟩ : ∃ t, takesR b = t := ⟨_, rfl⟩
  rw [ht] at HT
  have HTT := Lib.hid ht
  clear ht
  go_enter Try.func25, Try.ntmps25
  go_wp2_with fail
  go_quiet ((go_at_call 32; exact quiet_left (HT.out _)))
  have hRM2 := HRM.out.below (bdrewN (Below.refl _ w) nq)
  have hBB : Below g w (w.drewN nq) := (bdrewN (Below.refl w.heap.size w) nq).mono (Nat.le_of_lt hlt)
  go_wp2_with (go_at_call 24; refine (HW.out _ _ hRM2).mono ?_; rintro e w1 ⟨rfl, hr, hb1⟩)
  all_goals
    go_end0
    rw [← HR.out]
    have ht := HTT.out
    clear HRM HM HR HT HW c4 HTT
    first
      | (refine ⟨rfl, cast (congrArg (fun z => RM w1 g P main F M (if er = 0 then z else er)) ?_) hr, hBB.trans hb1⟩
         clear hr hb1 hBB hRM2
         unfold cntE
         rw [ht]
         first | (simp_all; done) | (simp_all; omega))
      | (refine ⟨rfl, cast (congrArg (fun z => RM (w.drewN nq) g P main F M z) ?_) hRM2, hBB⟩
         by_cases hz : er = 0
         · rw [if_pos hz, hz]
           clear hBB hRM2 hz
           unfold cntE
           rw [ht]
           first | (simp_all; done) | (simp_all; omega) | skip
         · rw [if_neg hz])
end
end Go.Proofs.Ytoehkfinchnadaa
