/- Two masks that are alike; a side. -/
import Derived.Test.YtpidgiooggffdaaAllP
import Derived.Test.YtpidgiooggffdaaEdge
namespace Go.Proofs.Ytpidgiooggffdaa
open Go.RowKit Go.BigFrame

theorem bys_str {w : World} {A : Option Addr} {n : Nat} (c : Nat) {xs : List Nat} (h : Sl w 1 A n (bys xs)) (hz : n = 0 → A = none) : (convert 26 9 (.slice A n c)).run Try.prog w = .ok (.string (strOfNums (xs.map Int.ofNat))) w := by
  have hl : xs.length = n := by have := h.1; simp [bys] at this; omega
  by_cases h0 : n = 0
  · rw [hz h0, run_convert_bytes_nil w 26 5 Try.underlying26 Try.underlying5 n c 9 Try.underlying9]
    have : xs = [] := List.eq_nil_of_length_eq_zero (by omega)
    subst this
    rfl
  · obtain ⟨b, off, rfl, hb, hc⟩ := h.2 (by omega)
    refine run_convert_bytes_arg w 26 5 Try.underlying26 Try.underlying5 b off n c (xs.map Int.ofNat) (by simpa using hl) (fun i hi => ?_) 9 Try.underlying9
    rw [hc i (.int .u8 (xs[i]'(by omega))) (by simp [bys, hl, hi])]
    simp [List.getD, hl, hi]
set_option maxRecDepth 100000 in
theorem Bytes_any (A A' : Option Addr) (n c c' : Nat) (xs : List Nat) (w : World) (h : Sl w 1 A n (bys xs)) (hz : n = 0 → A = none) (h' : Sl w 1 A' n (bys xs)) (hz' : n = 0 → A' = none) :
    Calls Try.prog 24 #[.slice A n c, .slice A' n c'] w fun e w' => e = .returned (.bool true) ∧ w = w' := by
  have k1 := bys_str c h hz
  have k2 := bys_str c' h' hz'
  clear h hz h' hz'
  go_enter Try.func24, Try.ntmps24
  go_wp2
  go_ret
  exact ⟨rfl, rfl⟩
set_option maxRecDepth 100000 in
theorem helpMask_any (A A' : Option Addr) (n c c' : Nat) (a b : Int) (xs : List Nat) (w : World) (h : Sl w 1 A n (bys xs)) (hz : n = 0 → A = none) (h' : Sl w 1 A' n (bys xs)) (hz' : n = 0 → A' = none) :
    Calls Try.prog 8 #[.agg #[.int .i64 a, .int .i64 b, .slice A n c], .agg #[.int .i64 a, .int .i64 b, .slice A' n c']] w fun e w' => e = .returned (.bool true) ∧ Below w.heap.size w w' := by
  have HB := fun W (g : Sl W 1 A n (bys xs)) (g' : Sl W 1 A' n (bys xs)) => Bytes_any A A' n c c' xs W g hz g' hz'
  have haa : (a == a) = true := by simp
  have hbb : (b == b) = true := by simp
  go_enter Try.func8, Try.ntmps8
  go_wp2_with fail
  refine (HB _ (h.below (bal (bal (Below.refl _ _) _) _)) (h'.below (bal (bal (Below.refl _ _) _) _))).mono ?_; rintro e w1 ⟨rfl, rfl⟩
  go_wp2
  go_ret
  exact ⟨rfl, bal (bal (Below.refl _ _) _) _⟩
def sideB (v : Int) : Bool := decide (1 ≤ v) && decide (v ≤ 64)
set_option maxRecDepth 100000 in
theorem IsSide_any (v : Int) (w : World) : Calls Try.prog 23 #[.int .i64 v] w fun e w' => e = .returned (.bool (sideB v)) ∧ w = w' := by
  have hs : sideB v = (decide (v ≥ 1) && decide (v ≤ 64)) := rfl
  rw [hs]
  clear hs
  go_enter Try.func23, Try.ntmps23
  go_wp2
  all_goals
    go_ret
    refine ⟨?_, rfl⟩
    first | (simp_all; done) | (simp_all; omega)
end Go.Proofs.Ytpidgiooggffdaa
