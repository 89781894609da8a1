/- The walk of StrokeBack: it returns true. -/
import Derived.Test.YtbbffeddlgfeiaaStrokeWithin
import Derived.Test.YtbbffeddlgfeiaaStrokeBackP
import Derived.Test.YtbbffeddlgfeiaaShift
import Derived.Test.YtbbffeddlgfeiaaBack
import Derived.Deep.RegionHeld3
namespace Go.Proofs.Ytbbffeddlgfeiaa
open Go.RowKit Go.BigFrame

theorem keepSt {W w' : World} {g : Nat} {a b c : Value} (hb : Below W.heap.size W w') (hg : g < W.heap.size) (h : W.cell? ⟨g, 0, none⟩ = some a ∧ W.cell? ⟨g, 1, none⟩ = some b ∧ W.cell? ⟨g, 2, none⟩ = some c) :
    w'.cell? ⟨g, 0, none⟩ = some a ∧ w'.cell? ⟨g, 1, none⟩ = some b ∧ w'.cell? ⟨g, 2, none⟩ = some c :=
  ⟨(later_cell hb hg).trans h.1, (later_cell hb hg).trans h.2.1, (later_cell hb hg).trans h.2.2⟩
set_option maxRecDepth 100000 in
set_option maxHeartbeats 4000000 in
theorem StrokeBack_any (A : Option Addr) (n c : Nat) (v x y dx dy : Int) (w : World) (h : InA w A n) (hnc : n ≤ c) (hcm : c ≤ 9223372036854775807) :
    Calls Try.prog 8 #[.slice A n c, .int .i64 v, .int .i64 x, .int .i64 y, .int .i64 dx, .int .i64 dy] w fun e w' => e = .returned (.bool true) ∧ Below w.heap.size w w' := by
  go_enter Try.func8, Try.ntmps8
  go_wp2_with fail
  refine (known33_any _).mono ?_; rintro e w1 ⟨rfl, hb1⟩
  go_wp2_with fail
  refine (Made_any A n c false w1 (h.below hb1) hnc hcm).mono ?_; rintro e w2 ⟨l, A2, c2, rfl, hown2, hmd2, hb2⟩
  have B2 : Below w.heap.size w w2 := btr hb1 hb2
  have hp2 := own_sl hown2
  clear hb1 hb2 hown2
  have hlm := hmd2.may
  have hlk := hmd2.2.2.2 rfl
  have hl12 := hmd2.2.1
  obtain ⟨ll, hll⟩ : ∃ x, l.length = x := ⟨_, rfl⟩
  rw [hll] at hl12 hp2 ⊢
  have HLM := Lib.hid hlm
  have HLK := Lib.hid hlk
  have HLL := Lib.hid hll
  have HMD := Lib.hid hmd2
  clear hmd2 hlm hlk hll
  go_wp2_with fail
  refine (Style_any v _).mono ?_; rintro e w4 ⟨rfl, hb4⟩
  have B4 := btr B2 hb4
  have hp4 := hp2.below hb4
  have hso := styI_ok v
  clear hb4 hp2 B2
  obtain ⟨s, hs⟩ : ∃ s, s = styI v := ⟨_, rfl⟩
  rw [← hs] at hso ⊢
  clear hs
  obtain ⟨wd, cp, jn⟩ := s
  simp only at hso
  simp only [syc]
  go_wp2_with fail
  obtain ⟨w5, hw5⟩ : ∃ w5 : World, w5 = w4.alloc (.cells #[.int .i64 wd, .int .i64 cp, .int .i64 jn] 27) := ⟨_, rfl⟩
  rw [← hw5]
  have hst : StIn w5 w4.heap.size wd cp jn := by rw [hw5]; exact StIn.new _ _ _
  have hb45 : Below w4.heap.size w4 w5 := by rw [hw5]; exact bal (Below.refl _ _) _
  have B5 := btr B4 hb45
  have hp5 := hp4.below hb45
  clear hw5 hb45 hp4 B4
  refine (Place_any dx 3000 _ (by omega) (by omega)).mono ?_; rintro e w' ⟨rfl, rfl⟩
  have hf : 0 ≤ placeI dx 3000 ∧ placeI dx 3000 < 3000 := by unfold placeI; omega
  generalize placeI dx 3000 = pu at *
  go_wp2_with fail
  refine (Place_any dy 3000 _ (by omega) (by omega)).mono ?_; rintro e w' ⟨rfl, rfl⟩
  have hg : 0 ≤ placeI dy 3000 ∧ placeI dy 3000 < 3000 := by unfold placeI; omega
  generalize placeI dy 3000 = pw at *
  obtain ⟨f0, f1⟩ := hf
  obtain ⟨g0, g1⟩ := hg
  obtain ⟨m, hm0, hm1, hm2, hm3, hm4⟩ := move_cov HMD.out (dx := pu - 1500) (dy := pw - 1500) (by omega) (by omega)
  have hml : m.length = ll := by rw [hm1]; exact HLL.out
  have HM0 := Lib.hid hm0
  have HM2 := Lib.hid hm2
  have HM3 := Lib.hid hm3
  have HM4 := Lib.hid hm4
  have HML := Lib.hid hml
  clear hm0 hm1 hm2 hm3 hm4 hml
  go_wp2_with fail
  refine (Shift_any _ _ _ _ _ l _ _ (by omega) hp5 HM0.out).mono ?_; rintro e w6 ⟨A6, c6, rfl, hown6, hb6⟩
  simp only [HML.out] at hown6 ⊢
  have B6 := btr B5 hb6
  have hp6 := hp5.below hb6
  have hm6 := own_sl hown6
  obtain ⟨hz6, t0, t1, t2⟩ := hst.below hb6
  clear hb6 hown6 hp5 hst B5
  have hpx := pntI_ok x
  have hpy := pntI_ok y
  obtain ⟨px, hpxe⟩ : ∃ p, p = pntI x := ⟨_, rfl⟩
  obtain ⟨py, hpye⟩ : ∃ p, p = pntI y := ⟨_, rfl⟩
  have hPX := fun W => point_any x W
  have hPY := fun W => point_any y W
  rw [← hpxe] at hpx hPX
  rw [← hpye] at hpy hPY
  have HPX := Lib.hid hPX
  have HPY := Lib.hid hPY
  clear hPX hPY hpxe hpye
  obtain ⟨bv, hbv⟩ : ∃ b, inL l ⟨wd, cp, jn⟩ px py = b := ⟨_, rfl⟩
  obtain ⟨bl, hbl⟩ : ∃ bl, backL l = bl := ⟨_, rfl⟩
  have hbl2 : bl.length = ll := by rw [← hbl, backL_len HLM.out]; exact HLL.out
  have hv2 : inL bl ⟨wd, cp, jn⟩ px py = bv := by
    rw [← hbv, ← hbl, inL_made (backL_may HLM.out) (back_nobow HLM.out HLK.out) (by simp only; omega) (by simp only; omega) (by simp only; omega) (by omega) (by omega), inL_made HLM.out HLK.out (by simp only; omega) (by simp only; omega) (by simp only; omega) (by omega) (by omega)]
    exact back_cov HLM.out _ _ _
  have hv3 : inL m ⟨wd, cp, jn⟩ (px + (pu - 1500)) (py + (pw - 1500)) = bv := by
    rw [← hbv, inL_made HM2.out HM3.out (by simp only; omega) (by simp only; omega) (by simp only; omega) (by omega) (by omega), inL_made HLM.out HLK.out (by simp only; omega) (by simp only; omega) (by simp only; omega) (by omega) (by omega)]
    exact HM4.out _ _ _
  have HBV := Lib.hid hbv
  have HBL := Lib.hid hbl
  have HBL2 := Lib.hid hbl2
  have HV2 := Lib.hid hv2
  have HV3 := Lib.hid hv3
  clear hbv hbl hbl2 hv2 hv3 HMD
  go_wp2_with fail
  have u0 := fun g : Grown w6 => g.cell t0 hz6
  have u1 := fun g : Grown w6 => g.cell t1 hz6
  have u2 := fun g : Grown w6 => g.cell t2 hz6
  refine wp_region_grown (by kernel_rfl) (by kernel_rfl) ?_
  repeat (go_big_quiet_step (first
    | (go_at_call 14; with_reducible exact Calls.grown_same (HPX.out _))
    | (go_at_call 14; with_reducible exact Calls.grown_same (HPY.out _))
    | (go_at_call 13; with_reducible exact Calls.grown (In_st (l := l) _ HBV.out (by omega) (hp6.below (Grown.below _))))))
  refine wpQuiet_nil ?_
  intro _ hw'
  obtain ⟨xq, hw''⟩ := hw'
  subst hw''
  have B7 := btr B6 xq.below
  have hp7 := hp6.below xq.below
  have hm7 := hm6.below xq.below
  have hz7 := Nat.lt_of_lt_of_le hz6 xq.below.size
  have t0' := u0 xq
  have t1' := u1 xq
  have t2' := u2 xq
  obtain ⟨W, hW⟩ : ∃ W, W = xq.world := ⟨_, rfl⟩
  rw [← hW] at B7 hp7 hm7 hz7 t0' t1' t2' ⊢
  clear hW u0 u1 u2 t0 t1 t2 hz6 hp6 hm6 B6
  have hS0 := And.intro t0' (And.intro t1' t2')
  have hBB : (bv == bv) = true := by simp
  have hz7' : w4.heap.size < W.drew.heap.size := hz7
  have hpb := fun W' (hb' : Below W.heap.size W W') => hp7.below hb'
  have hmb := fun W' (hb' : Below W.heap.size W W') => hm7.below hb'
  have HPB := Lib.hid hpb
  have HMB := Lib.hid hmb
  have wr1 : IntKind.i64.wrap (px + (pu - 1500)) = px + (pu - 1500) := IntWalk.i64_in _ (by omega)
  have wr2 : IntKind.i64.wrap (py + (pw - 1500)) = py + (pw - 1500) := IntWalk.i64_in _ (by omega)
  clear hpb hmb hp7 hm7
  go_wp2_with fail
  go_region_held3 (fun w' => w'.cell? ⟨w4.heap.size, 0, none⟩ = some (.int .i64 wd) ∧ w'.cell? ⟨w4.heap.size, 1, none⟩ = some (.int .i64 cp) ∧ w'.cell? ⟨w4.heap.size, 2, none⟩ = some (.int .i64 jn))
    (first | with_reducible exact keepSt (W := W) (by assumption) hz7 hS0 | go_keep)
    (first
      | (go_at_call 18; refine (Back_any A2 ll c2 l bl _ (by omega) (HPB.out _ (by repeat (first | with_reducible exact Below.refl _ _ | with_reducible refine bdrew ?_))) HBL.out).mono ?_; rintro e w' ⟨AB, cB, rfl, hownB, hbA⟩; rw [HBL2.out] at hownB ⊢; have BA : Below W.heap.size W w' := btr (by repeat (first | with_reducible exact Below.refl _ _ | with_reducible refine bdrew ?_)) hbA; have hsB := own_sl hownB)
      | (go_at_call 14; with_reducible refine (HPX.out _).mono ?_; rintro e w' ⟨rfl, rfl⟩)
      | (go_at_call 14; with_reducible refine (HPY.out _).mono ?_; rintro e w' ⟨rfl, rfl⟩)
      | (go_at_call 13; with_reducible refine (In_st (l := bl) _ HV2.out (by omega) hsB).mono ?_; rintro e w' ⟨rfl, hbB⟩; have BB := btr BA hbB)
      | (go_at_call 13; with_reducible refine (In_st (l := m) _ HV3.out (by omega) (HMB.out _ BB)).mono ?_; rintro e w' ⟨rfl, hbC⟩; have BC := btr BB hbC))
  all_goals
    go_wp2
    go_ret
    exact ⟨rfl, btr B7 BC⟩
end Go.Proofs.Ytbbffeddlgfeiaa
