/- Contour.last, contours: what they return. -/
import Derived.Test.YtpompbpdhahljaaRefCts
import Derived.Test.YtpompbpdhahljaaSame
import Derived.Test.YtpompbpdhahljaaBackP
import Derived.Test.YtpompbpdhahljaaLex
namespace Go.Proofs.Ytpompbpdhahljaa
open Go.RowKit

set_option maxHeartbeats 1000000 in
theorem clast_any (x y : Int) (Ae : Option Addr) (u ce : Nat) (sh : Bool) (es : List Ed) (w : World) (hu : u ≤ 1000000) (h : Sl w 7 Ae u (eds es)) :
    Calls Try.prog 71 #[.agg #[.int .i64 x, .int .i64 y, .slice Ae u ce, .bool sh]] w fun e w' => e = .returned (.tuple #[.int .i64 (endX x es), .int .i64 (endY y es)]) ∧ Below w.heap.size w w' := by
  have hl := h.edlen
  go_enter Try.func71, Try.ntmps71
  by_cases h0 : u = 0
  · subst h0
    have hn := List.length_eq_zero_iff.1 hl
    subst hn
    go_wp2
    go_quiet (fail)
    go_wp2
    go_ret2
    exact ⟨rfl, bdrewN (bal (Below.refl _ _) _) _⟩
  · have h1 : 1 ≤ u := by omega
    obtain ⟨b, off, rfl, hb, f0, f1, f2, f3, f4, f5, f6⟩ := h.ed (u - 1) (by omega) (by omega)
    have ex := endX_get x es (by omega)
    have ey := endY_get y es (by omega)
    simp only [hl] at ex ey
    rw [← ex] at f5
    rw [← ey] at f6
    have hn0 : ((u : Int) == 0) = false := by simp; omega
    have hn1 : (u == 0) = false := by simp; omega
    clear ex ey h0
    go_wp2
    go_quiet (fail)
    go_wp2
    go_ret2
    exact ⟨rfl, bdrewN (bal (bal (Below.refl _ _) _) _) _⟩

theorem same_quiet (A B : Option Addr) (n c d : Nat) (l : List Ed) (w : World) (q r : Nat) (hn : n ≤ 1000000) (h1 : Sl w 7 A n (eds l)) (h2 : Sl w 7 B n (eds l)) :
    Calls Try.prog 25 #[.slice A n c, .slice B n d] (w.drewN (q + r)) fun e w' => e = .returned (.bool true) ∧ ∃ m, w' = w.drewN (q + m) := by
  refine (sameEd_any _ _ _ _ _ _ l _ hn (h1.drewN _) (h2.drewN _)).mono ?_
  rintro e w' ⟨rfl, m, rfl⟩
  exact ⟨rfl, r + m, by rw [World.drewN_drewN, Nat.add_assoc]⟩

set_option maxRecDepth 100000 in
set_option maxHeartbeats 4000000 in
theorem contours_any (A B : Option Addr) (n c d : Nat) (cs : List Ct) (w : World) (hn : n ≤ 1000000) (hes : ∀ c ∈ cs, c.es.length ≤ 1000000) (h1 : CtSl w A n cs) (h2 : CtSl w B n cs) :
    Calls Try.prog 39 #[.slice A n c, .slice B n d] w fun e w' => e = .returned (.bool true) ∧ ∃ q, w.drewN q = w' := by
  have hl := h1.len
  go_enter Try.func39, Try.ntmps39
  go_wp2
  go_loopw [5] (fun i wr => ∃ k q : Nat, k ≤ n ∧ i = .int .i64 (k : Int) ∧ w.drewN q = wr) (fun i _ => n - (intOf i).toNat)
  case atStart => exact ⟨0, 0, by omega, rfl, rfl⟩
  case round =>
    obtain ⟨k, q, hk, rfl, rfl⟩ := hrel
    by_cases hlt : k < n
    · have hka : k < cs.length := by omega
      obtain ⟨bA, oA, AA, cA, rfl, hbA, a0, a1, a2, a3, hsA⟩ := h1.get k hlt hka
      obtain ⟨bB, oB, AB, cB, rfl, hbB, b0, b1, b2, b3, hsB⟩ := h2.get k hlt hka
      have hu := hes cs[k] (List.getElem_mem hka)
      obtain ⟨ct, hct⟩ : ∃ ct, ct = cs[k] := ⟨_, rfl⟩
      rw [← hct] at a0 a1 a2 a3 b0 b1 b2 b3 hsA hsB hu
      have HS := fun q' => same_quiet AA AB ct.es.length cA cB ct.es w q q' hu hsA hsB
      have HSQ := Lib.hid HS
      clear HS hct hka hsA hsB
      go_wp2
      refine wp_region_quiet_lit (by kernel_rfl) (lexB_of (base := 17) (by kernel_rfl)) ?_
      repeat go_big_quiet_step ((go_at_call 25; exact HSQ.out _))
      refine wpQuiet_nil ?_
      intro _ hw'
      obtain ⟨nq, hw''⟩ := hw'
      subst hw''
      go_wp2
      go_roundw
      case rel => exact ⟨k + 1, _, by omega, by go_num, rfl⟩
      case measure => simp [intOf]; omega
    · obtain rfl : k = n := by omega
      go_wp2
      go_ret
      exact ⟨rfl, _, rfl⟩

end Go.Proofs.Ytpompbpdhahljaa
