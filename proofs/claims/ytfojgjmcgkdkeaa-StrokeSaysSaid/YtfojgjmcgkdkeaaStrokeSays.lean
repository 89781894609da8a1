/- The walk of StrokeSays: it returns true. -/
import Derived.Test.YtfojgjmcgkdkeaaStrokeR5
import Derived.Test.YtfojgjmcgkdkeaaStrokeJoins
namespace Go.Proofs.Ytfojgjmcgkdkeaa
open Go.RowKit Go.BigFrame

set_option maxRecDepth 100000 in
set_option maxHeartbeats 2000000 in
theorem StrokeSays_any (A : Option Addr) (n c : Nat) (l : List Sg) (wd cp jn x y : Int) (w : World) (h : Sl w 5 A n (sgs l)) (hc : n ≤ 9223372036854775807) :
    Calls Try.prog 3 #[.slice A n c, .agg #[.int .i64 wd, .int .i64 cp, .int .i64 jn], .int .i64 x, .int .i64 y] w fun e w' => e = .returned (.bool true) ∧ Below w.heap.size w w' := by
  obtain ⟨w0, hw0⟩ : ∃ w0 : World, w0 = w.alloc (.cells #[.int .i64 wd, .int .i64 cp, .int .i64 jn] 24) := ⟨_, rfl⟩
  have hst : StIn w0 w.heap.size wd cp jn := by rw [hw0]; exact StIn.new _ _ _
  have B0 : Below w.heap.size w w0 := by rw [hw0]; exact bal (Below.refl _ _) _
  have h0 := h.below B0
  clear h
  go_enter Try.func3, Try.ntmps3
  go_wp2_with fail
  rw [← hw0]
  clear hw0
  refine (known33_any _).mono ?_; rintro e w1 ⟨rfl, hb1⟩
  have B1 := btr B0 hb1
  have h1 := h0.below hb1
  have ht1 := hst.below hb1
  clear hb1 h0 hst B0
  by_cases hn : 60 < n
  · have hd : decide ((n : Int) > 60) = true := by simp; omega
    have hd2 : decide (60 < n) = true := by simp; omega
    go_wp2
    go_ret
    exact ⟨rfl, B1⟩
  · have hd : decide ((n : Int) > 60) = false := by simp; omega
    have hd2 : decide (60 < n) = false := by simp; omega
    have hE := fun g : Grown w1 => h1.below g.below
    have s0 := fun g : Grown w1 => g.cell ht1.c0 ht1.lt
    have s1 := fun g : Grown w1 => g.cell ht1.c1 ht1.lt
    have s2 := fun g : Grown w1 => g.cell ht1.c2 ht1.lt
    obtain ⟨m, hm⟩ : ∃ m, m = mayS ⟨wd, cp, jn⟩ := ⟨_, rfl⟩
    obtain ⟨r, hr⟩ : ∃ r, r = inL l ⟨wd, cp, jn⟩ x y := ⟨_, rfl⟩
    have c1 := fun W => stroke_May_any ⟨wd, cp, jn⟩ W
    have c2 := fun W => ref_MaySt_any ⟨wd, cp, jn⟩ W
    have c3 := fun W (hs : Sl W 5 A n (sgs l)) => stroke_In_any A n c l ⟨wd, cp, jn⟩ x y W (by omega) hs
    have c4 := fun W (hs : Sl W 5 A n (sgs l)) => ref_In_any A n c l wd cp jn x y W (by omega) hs
    simp only [← hm, ← hr, syc] at c1 c2 c3 c4
    have C1 := Lib.hid c1
    have C2 := Lib.hid c2
    have C3 := Lib.hid c3
    have C4 := Lib.hid c4
    clear hm hr c1 c2 c3 c4
    go_wp2_with fail
    refine wp_region_grown (by kernel_rfl) (by kernel_rfl) ?_
    repeat (go_big_quiet_step (first
      | (go_at_call 10; with_reducible exact Calls.grown (C1.out _))
      | (go_at_call 11; with_reducible exact Calls.grown (C2.out _))
      | (go_at_call 12; with_reducible exact Calls.grown (C3.out _ (hE _)))
      | (go_at_call 13; with_reducible exact Calls.grown (C4.out _ (hE _)))))
    refine wpQuiet_nil ?_
    intro _ hw'
    obtain ⟨xq, hw''⟩ := hw'
    subst hw''
    go_wp2
    go_ret
    exact ⟨rfl, btr B1 xq.below⟩
end Go.Proofs.Ytfojgjmcgkdkeaa
