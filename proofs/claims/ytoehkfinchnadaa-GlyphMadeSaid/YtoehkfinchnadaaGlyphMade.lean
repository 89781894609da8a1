/- The walk of GlyphMade: it returns true. -/
import Derived.Test.YtoehkfinchnadaaGRef12
import Derived.Test.YtoehkfinchnadaaGMade3
namespace Go.Proofs.Ytoehkfinchnadaa
open Go.RowKit Go.BigFrame

theorem ref_Run_is2 {p : ByteArray} {L : List Sg} {wd er : Int} {n : Nat} (w : World) (hp : p.size ≤ 1000000) (hr : RunG (bl p) = ((L, wd), er)) (hn : L.length = n) :
    Calls Try.prog 7 #[.string p] w fun e w' => ∃ (A : Option Addr) (c : Nat), e = .returned (.tuple #[.slice A n c, .int .i64 wd, .int .i64 er]) ∧ Sl w' 5 A n (sgs L) ∧ Below w.heap.size w w' := by
  refine (ref_Run_any p w hp).mono ?_; rintro e w' ⟨L', wd', er', A, n', c, rfl, hr', hn', _, hs, hb⟩
  rw [hr] at hr'
  simp only [Prod.mk.injEq] at hr'
  obtain ⟨⟨rfl, rfl⟩, rfl⟩ := hr'
  rw [hn] at hn'
  subst hn'
  exact ⟨A, c, rfl, hs, hb⟩
set_option maxRecDepth 100000 in
set_option maxHeartbeats 4000000 in
theorem GlyphMade_any (A : Option Addr) (n c : Nat) (w : World) (h : InA w A n) (hnc : n ≤ c) (hcm : c ≤ 9223372036854775807) :
    Calls Try.prog 3 #[.slice A n c] w fun e w' => e = .returned (.bool true) ∧ Below w.heap.size w w' := by
  go_enter Try.func3, Try.ntmps3
  go_wp2_with fail
  refine (known40_any _).mono ?_; rintro e w1 ⟨rfl, hb1⟩
  go_wp2_with fail
  refine (prog_any A n c w1 (h.below hb1) hnc hcm).mono ?_; rintro e w2 ⟨p, rfl, hps, hb2⟩
  have B2 := btr hb1 hb2
  clear hb1 hb2
  go_wp2_with fail
  refine (Run_any p _ hps).mono ?_; rintro e w3 ⟨L, wd, er, A3, n3, c3, rfl, hr, hn, hn3, hnc3, hs3, ⟨hmay, hw1, hw2⟩, hb3⟩
  have B3 := btr B2 hb3
  have HR := Lib.hid hr
  have HN := Lib.hid hn
  have HMY := Lib.hid hmay
  have e1 : (wd == wd) = true := by simp
  have e2 : (er == er) = true := by simp
  clear hb3 B2 hr hn hmay
  go_wp2_with fail
  refine (ref_Run_is2 _ hps HR.out HN.out).mono ?_; rintro e w4 ⟨A4, c4, rfl, hs4, hb4⟩
  have B4 := btr B3 hb4
  have hs3' := hs3.below hb4
  clear hb4 hs3 B3
  go_wp2_with fail
  refine (sameSg_any _ _ _ _ _ _ L _ (by omega) hs3' hs4).mono ?_; rintro e w5 ⟨rfl, q5, rfl⟩
  have B5 := bdrewN B4 q5
  have hs5 := hs3'.below (bdrewN (Below.refl w4.heap.size w4) q5)
  clear hs3' hs4 B4
  go_wp2_with fail
  refine (path_May_any A3 n3 c3 L _ (by omega) hs5).mono ?_; rintro e w6 ⟨rfl, hb6⟩
  rw [HMY.out]
  have B6 := btr B5 hb6
  go_wp2_with fail
  go_ret
  exact ⟨rfl, B6⟩
end Go.Proofs.Ytoehkfinchnadaa
