/- tympanhelp.Same: two slices that read as one list are alike. -/
import Derived.Test.YtdfkbbcoolgfiaaGreatProg
import Derived.Test.YtdfkbbcoolgfiaaGreatAllP
namespace Go.Proofs.YtdfkbbcoolgfiaaGreat
open Go.RowKit

set_option maxHeartbeats 400000 in
theorem sameSg_any (A X : Option Addr) (n m c d : Nat) (l : List Sg) (w : World) (hn : n ≤ 1000000) (h : Sl w 5 A n (sgs l)) (k : Sl w 5 X m (sgs l)) :
    Calls Tryz.prog 43 #[.slice A n c, .slice X m d] w fun e w' => e = .returned (.bool true) ∧ ∃ q, w.drewN q = w' := by
  have hl := h.sglen
  obtain rfl : n = m := by rw [← hl, k.sglen]
  go_enter Tryz.func43, Tryz.ntmps43
  go_wp2
  go_loopw [5] (fun i wr => ∃ j : Nat, j ≤ n ∧ i = .int .i64 j ∧ ∃ q, w.drewN q = wr) (fun i _ => n - (intOf i).toNat)
  case atStart => exact ⟨0, by omega, rfl, 0, rfl⟩
  case round =>
    obtain ⟨j, hj, rfl, q, rfl⟩ := hrel
    by_cases hlt : j < n
    · obtain ⟨b, off, rfl, hb, c0, c1, c2, c3, c4⟩ := h.sg j hlt (by omega)
      obtain ⟨b', off', rfl, hb', d0, d1, d2, d3, d4⟩ := k.sg j hlt (by omega)
      obtain ⟨s, hs⟩ : ∃ s, s = l[j]'(by omega) := ⟨_, rfl⟩
      rw [← hs] at *
      clear hs
      go_wp2
      go_quiet (fail)
      go_wp2
      go_roundw
      case rel => exact ⟨j + 1, by omega, by go_num, q + nq, rfl⟩
      case measure => simp [intOf]; omega
    · go_wp2
      go_ret
      exact ⟨rfl, q, rfl⟩
end Go.Proofs.YtdfkbbcoolgfiaaGreat
