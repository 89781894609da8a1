/- StateMarks: the walk (printed by genmk.py). -/
import Derived.Test.YtdfkbbcoolgfiaaGreatStrR
import Derived.Test.YtdfkbbcoolgfiaaGreatStPic
import Derived.Test.YtdfkbbcoolgfiaaGreatPicR
import Derived.Test.YtdfkbbcoolgfiaaGreatClipR
import Derived.Test.YtdfkbbcoolgfiaaGreatMHp
import Derived.Test.YtdfkbbcoolgfiaaGreatMOp
import Derived.Test.YtdfkbbcoolgfiaaGreatMTh
namespace Go.Proofs.YtdfkbbcoolgfiaaGreat
open Go.RowKit Go.Maps Go.BigFrame

theorem ItAt.oneM {w : World} {y : It} {P C : Value} (h : ItAt w y P C) : ∀ v ∈ itC y P C, v.oneCell' = true := by
  obtain ⟨_, _, rfl, _⟩ := h.p
  obtain ⟨_, _, rfl, _⟩ := h.c
  exact itC_one rfl rfl
theorem zeroI_fewM : itFew zeroI := ⟨Nat.zero_le _, Nat.zero_le _, fun c hc => by cases hc⟩
theorem zeroS_fewM : stFew zeroS := ⟨by simp [zeroS], by simp [zeroS], by simp [zeroS], by simp [zeroS]⟩
theorem fillS_few {x : St} (h : stFew x) (r : Int) : itFew (fillS x r).1 := by
  unfold fillS
  split
  · exact zeroI_fewM
  · exact ⟨h.1, h.2.1, h.2.2.1⟩
theorem strokeS_few {x : St} (h : stFew x) : itFew (strokeS x).1 := by
  have hL := flatE_len x.p
  have hD := dashedS_len (m := x.m) (da := x.da) (ph := x.ph) hL
  unfold strokeS
  split
  · exact zeroI_fewM
  split
  · exact zeroI_fewM
  split
  · exact zeroI_fewM
  split
  · exact ⟨Nat.le_trans hL (by omega), h.2.1, h.2.2.1⟩
  split
  · exact zeroI_fewM
  · exact ⟨Nat.le_trans hD (by omega), h.2.1, h.2.2.1⟩
theorem picS_few {x : St} (h : stFew x) (i : Im) (m : Mt) (k : Bool) : itFew (picS x i m k).1 := by
  unfold picS
  split
  · exact zeroI_fewM
  split
  · exact zeroI_fewM
  split
  · exact zeroI_fewM
  · exact ⟨Nat.zero_le _, h.2.1, h.2.2.1⟩
theorem clipS_few {x : St} (h : stFew x) (r : Int) : stFew (clipS x r).1 := by
  unfold clipS
  split
  · exact zeroS_fewM
  split
  · exact zeroS_fewM
  · refine ⟨Nat.zero_le _, by simp; omega, fun c hc => ?_, h.2.2.2⟩
    rcases List.mem_append.1 hc with hc | hc
    · exact h.2.2.1 c hc
    · rw [List.mem_singleton] at hc; subst hc; exact h.1
theorem concatB_few {x : St} (h : stFew x) (m : Mt) : stFew (concatB x m).1 := by
  unfold concatB
  split
  · exact zeroS_fewM
  split
  · exact zeroS_fewM
  · exact h
set_option maxRecDepth 100000 in
set_option maxHeartbeats 8000000 in
theorem StateMarks_any (x : St) (P C D : Value) (rule : Int) (im : Im) (m : Mt) (mask : Bool) (w : World) (h : StAt w x P C D) (hr : stReach x) (hsz : im.d.size ≤ 9223372036854775807) :
    Calls Tryz.prog 3 #[.agg (stC x P C D).toArray, .int .i64 rule, imv im, mtv m, .bool mask] w fun e w' => e = .returned (.bool true) ∧ Below w.heap.size w w' := by
  have hss : IntKind.i64.wrap (im.d.size : Int) = im.d.size := IntWalk.i64_in _ (by omega)
  obtain ⟨w0, hw0⟩ : ∃ w0 : World, w0 = ((w.alloc (.cells (stC x P C D).toArray 32)).alloc (.cells (imC im).toArray 34)).alloc (.cells (mtC m).toArray 23) := ⟨_, rfl⟩
  have Q : Below w.heap.size w w0 := by rw [hw0]; exact bal (bal (bal (Below.refl _ _) _) _) _
  have hS : BC w0 w.heap.size (stC x P C D) := by rw [hw0]; exact (BC.new (stC x P C D) 32 rfl).below (bal (bal (Below.refl _ _) _) _)
  have hP : BC w0 (w.heap.size + 1) (imC im) := by rw [hw0]; exact (BC.new (w := w.alloc _) (imC im) 34 (by simp)).below (bal (Below.refl _ _) _)
  have hM : BC w0 (w.heap.size + 1 + 1) (mtC m) := by rw [hw0]; exact BC.new (w := (w.alloc _).alloc _) (mtC m) 23 (by simp)
  obtain ⟨gM, hgM⟩ : ∃ g, g = w.heap.size + 1 + 1 := ⟨_, rfl⟩
  obtain ⟨gP, hgP⟩ : ∃ g, g = w.heap.size + 1 := ⟨_, rfl⟩
  obtain ⟨gS, hgS⟩ : ∃ g, g = w.heap.size := ⟨_, rfl⟩
  have E2 := Lib.hid hgM
  have E3 := Lib.hid hgP
  have E4 := Lib.hid hgS
  rw [← hgM] at hM
  rw [← hgP] at hP
  rw [← hgS] at hS
  have HFW := Lib.hid fun W (hq : Below w.heap.size w W) => few_any x P C D W (h.below hq) hr
  have HST := Lib.hid fun W (hq : Below w.heap.size w W) => h.below hq
  have hvi : imv im = .agg (imC im).toArray := rfl
  rw [hvi, mtv_is]
  clear h hr hgM hgP hgS hvi
  go_enter Tryz.func3, Tryz.ntmps3
  go_upto_region 1 with (fail)
  rw [← hw0, ← E2.out, ← E3.out, ← E4.out]
  clear hw0 E2 E3 E4
  go_wp2_with fail
  refine (known42_any _).mono ?_; rintro e wk ⟨rfl, b1⟩
  replace Q := btr Q b1
  replace hS := hS.below b1
  replace hP := hP.below b1
  replace hM := hM.below b1
  clear b1
  go_wp2_with (first
    | (refine wpList_load_rec rfl _ _ rfl gS rfl _ 24 stateT hS rfl ?_)
    | fail)
  refine (HFW.out _ Q).mono ?_; rintro e wf ⟨rfl, b1⟩
  replace Q := btr Q b1
  replace hS := hS.below b1
  replace hP := hP.below b1
  replace hM := hM.below b1
  clear b1 HFW
  have a3 := hP.c 3 _ rfl
  cases hfew : fewB x
  · go_wp2
    go_ret
    exact ⟨rfl, Q⟩
  have hfw := fewB_few hfew
  clear hfew
  by_cases g0 : 5000 < im.d.size
  · have g0' : decide (5000 < (im.d.size : Int)) = true := by simp; omega
    clear g0 hfw
    go_wp2
    go_ret
    exact ⟨rfl, Q⟩
  have g0' : decide (5000 < (im.d.size : Int)) = false := by simp; omega
  obtain ⟨⟨I1, e1⟩, hY1⟩ : ∃ Y, fillS x rule = Y := ⟨_, rfl⟩
  obtain ⟨⟨I2, e2⟩, hY2⟩ : ∃ Y, strokeS x = Y := ⟨_, rfl⟩
  obtain ⟨⟨I3, e3⟩, hY3⟩ : ∃ Y, picS x im m mask = Y := ⟨_, rfl⟩
  obtain ⟨⟨S4, e4⟩, hY4⟩ : ∃ Y, clipS x rule = Y := ⟨_, rfl⟩
  obtain ⟨⟨S5, e5⟩, hY5⟩ : ∃ Y, concatB x m = Y := ⟨_, rfl⟩
  have F1 := Lib.hid (show itFew I1 by have := fillS_few hfw rule; rw [hY1] at this; exact this)
  have F2 := Lib.hid (show itFew I2 by have := strokeS_few hfw; rw [hY2] at this; exact this)
  have F3 := Lib.hid (show itFew I3 by have := picS_few hfw im m mask; rw [hY3] at this; exact this)
  have F4 := Lib.hid (show stFew S4 by have := clipS_few hfw rule; rw [hY4] at this; exact this)
  have F5 := Lib.hid (show stFew S5 by have := concatB_few hfw m; rw [hY5] at this; exact this)
  have HA1 := Lib.hid fun W (hq : Below w.heap.size w W) => (show Calls Tryz.prog 7 #[.agg (stC x P C D).toArray, .int .i64 rule] W fun r w' => ∃ P' C', r = .returned (.tuple #[.agg (itC I1 P' C').toArray, .int .i64 e1]) ∧ ItAt w' I1 P' C' ∧ Below W.heap.size W w' from (stFill_any x P C D rule (I1, e1) W (HST.out W hq) hY1).mono fun r w' ⟨P', C', hr, ho, hb⟩ => ⟨P', C', hr, ho.at, hb⟩)
  have HA2 := Lib.hid fun W (hq : Below w.heap.size w W) => (show Calls Tryz.prog 8 #[.agg (stC x P C D).toArray, .int .i64 rule] W fun r w' => ∃ P' C', r = .returned (.tuple #[.agg (itC I1 P' C').toArray, .int .i64 e1]) ∧ ItAt w' I1 P' C' ∧ Below W.heap.size W w' from (rFillS_any x P C D rule (I1, e1) W (HST.out W hq) hfw hY1).mono fun r w' ⟨P', C', hr, ho, hb⟩ => ⟨P', C', hr, ho.at ((HST.out W hq).below hb), hb⟩)
  have HB1 := Lib.hid fun W (hq : Below w.heap.size w W) => (show Calls Tryz.prog 9 #[.agg (stC x P C D).toArray] W fun r w' => ∃ P' C', r = .returned (.tuple #[.agg (itC I2 P' C').toArray, .int .i64 e2]) ∧ ItAt w' I2 P' C' ∧ Below W.heap.size W w' from (stStroke_any x P C D (I2, e2) W (HST.out W hq) hY2).mono fun r w' ⟨P', C', hr, ho, hb⟩ => ⟨P', C', hr, ho.at, hb⟩)
  have HB2 := Lib.hid fun W (hq : Below w.heap.size w W) => (show Calls Tryz.prog 10 #[.agg (stC x P C D).toArray] W fun r w' => ∃ P' C', r = .returned (.tuple #[.agg (itC I2 P' C').toArray, .int .i64 e2]) ∧ ItAt w' I2 P' C' ∧ Below W.heap.size W w' from rStroke_any x P C D (I2, e2) W (HST.out W hq) hfw hY2)
  have HC1 := Lib.hid fun W (hq : Below w.heap.size w W) => (show Calls Tryz.prog 11 #[.agg (stC x P C D).toArray, .agg (imC im).toArray, .agg (mtC m).toArray, .bool mask] W fun r w' => ∃ P' C', r = .returned (.tuple #[.agg (itC I3 P' C').toArray, .int .i64 e3]) ∧ ItAt w' I3 P' C' ∧ Below W.heap.size W w' from (stPicture_any x P C D im m mask (I3, e3) W (HST.out W hq) hY3).mono fun r w' ⟨P', C', hr, ho, hb⟩ => ⟨P', C', hr, ho.at, hb⟩)
  have HC2 := Lib.hid fun W (hq : Below w.heap.size w W) => (show Calls Tryz.prog 12 #[.agg (stC x P C D).toArray, .agg (imC im).toArray, .agg (mtC m).toArray, .bool mask] W fun r w' => ∃ P' C', r = .returned (.tuple #[.agg (itC I3 P' C').toArray, .int .i64 e3]) ∧ ItAt w' I3 P' C' ∧ Below W.heap.size W w' from (rPicture_any x P C D im m mask (I3, e3) W (HST.out W hq) hfw hY3).mono fun r w' ⟨P', C', hr, ho, hb⟩ => ⟨P', C', hr, ho.at ((HST.out W hq).below hb), hb⟩)
  have HD1 := Lib.hid fun W (hq : Below w.heap.size w W) => (show Calls Tryz.prog 13 #[.agg (stC x P C D).toArray, .int .i64 rule] W fun r w' => ∃ P' C' D', r = .returned (.tuple #[.agg (stC S4 P' C' D').toArray, .int .i64 e4]) ∧ StAt w' S4 P' C' D' ∧ Below W.heap.size W w' from (stClip_any x P C D rule (S4, e4) W (HST.out W hq) hY4).mono fun r w' ⟨P', C', D', hr, ho, hb⟩ => ⟨P', C', D', hr, ho.at, hb⟩)
  have HD2 := Lib.hid fun W (hq : Below w.heap.size w W) => (show Calls Tryz.prog 14 #[.agg (stC x P C D).toArray, .int .i64 rule] W fun r w' => ∃ P' C' D', r = .returned (.tuple #[.agg (stC S4 P' C' D').toArray, .int .i64 e4]) ∧ StAt w' S4 P' C' D' ∧ Below W.heap.size W w' from rClip_any x P C D rule (S4, e4) W (HST.out W hq) hfw hY4)
  have HE1 := Lib.hid fun W (hq : Below w.heap.size w W) => (show Calls Tryz.prog 15 #[.agg (stC x P C D).toArray, .agg (mtC m).toArray] W fun r w' => ∃ P' C' D', r = .returned (.tuple #[.agg (stC S5 P' C' D').toArray, .int .i64 e5]) ∧ StAt w' S5 P' C' D' ∧ Below W.heap.size W w' from (stConcatB_any x P C D m (S5, e5) W (HST.out W hq) hY5).mono fun r w' ⟨P', C', D', hr, ho, hb⟩ => ⟨P', C', D', hr, ho.at, hb⟩)
  have HE2 := Lib.hid fun W (hq : Below w.heap.size w W) => (show Calls Tryz.prog 16 #[.agg (stC x P C D).toArray, .agg (mtC m).toArray] W fun r w' => ∃ P' C' D', r = .returned (.tuple #[.agg (stC S5 P' C' D').toArray, .int .i64 e5]) ∧ StAt w' S5 P' C' D' ∧ Below W.heap.size W w' from (rConcatS_any x P C D m (S5, e5) W (HST.out W hq) hfw hY5).mono fun r w' ⟨P', C', D', hr, ho, hb⟩ => ⟨P', C', D', hr, ho.at ((HST.out W hq).below hb), hb⟩)
  clear g0 hY1 hY2 hY3 hY4 hY5 hfw HST hsz
  go_upto_region 5 with (fail)
  clear a3 g0' hss
  go_wp2_with (first
    | (refine wpList_load_rec rfl _ _ rfl gS rfl _ 24 stateT hS rfl ?_)
    | fail)
  refine (HA1.out _ Q).mono ?_; rintro e wa ⟨P1, C1, rfl, a1, b1⟩
  replace Q := btr Q b1
  replace hS := hS.below b1
  replace hP := hP.below b1
  replace hM := hM.below b1
  have one1 := a1.oneM
  obtain ⟨wb, hwb, N1, b2, Z1⟩ := put_newQ (W := wa) (vs := (itC I1 P1 C1)) rfl
  have HWB := Lib.hid hwb
  rw [zeroI_lit] at Z1 HWB
  replace Q := btr Q b2
  replace hS := hS.below b2
  replace hP := hP.below b2
  replace hM := hM.below b2
  replace a1 := a1.below b2
  clear hwb b1 b2 HA1
  go_upto_region 6 with (first
    | (refine wpList_store_rec rfl _ _ _ rfl wa.heap.size (itC I1 P1 C1) _ rfl rfl 21 itT Z1 rfl rfl one1 ?_; rw [← HWB.out])
    | fail)
  clear Z1 HWB one1
  obtain ⟨g1, hg1⟩ : ∃ g, g = wa.heap.size := ⟨_, rfl⟩
  rw [← hg1] at N1 ⊢
  clear hg1
  obtain ⟨wc, hwc⟩ : ∃ W, W = wb := ⟨_, rfl⟩
  rw [← hwc] at Q hS hP hM N1 a1 ⊢
  clear hwc
  go_wp2_with (first
    | (refine wpList_load_rec rfl _ _ rfl gS rfl _ 24 stateT hS rfl ?_)
    | fail)
  refine (HA2.out _ Q).mono ?_; rintro e wa ⟨P2, C2, rfl, a2, b1⟩
  replace Q := btr Q b1
  replace hS := hS.below b1
  replace hP := hP.below b1
  replace hM := hM.below b1
  replace N1 := N1.below b1
  replace a1 := a1.below b1
  have one1 := a2.oneM
  obtain ⟨wb, hwb, N2, b2, Z1⟩ := put_newQ (W := wa) (vs := (itC I1 P2 C2)) rfl
  have HWB := Lib.hid hwb
  rw [zeroI_lit] at Z1 HWB
  replace Q := btr Q b2
  replace hS := hS.below b2
  replace hP := hP.below b2
  replace hM := hM.below b2
  replace N1 := N1.below b2
  replace a1 := a1.below b2
  replace a2 := a2.below b2
  clear hwb b1 b2 HA2
  go_upto_region 7 with (first
    | (refine wpList_store_rec rfl _ _ _ rfl wa.heap.size (itC I1 P2 C2) _ rfl rfl 21 itT Z1 rfl rfl one1 ?_; rw [← HWB.out])
    | fail)
  clear Z1 HWB one1
  obtain ⟨g2, hg2⟩ : ∃ g, g = wa.heap.size := ⟨_, rfl⟩
  rw [← hg2] at N2 ⊢
  clear hg2
  obtain ⟨wc, hwc⟩ : ∃ W, W = wb := ⟨_, rfl⟩
  rw [← hwc] at Q hS hP hM N1 N2 a1 a2 ⊢
  clear hwc
  go_wp2_with (first
    | (refine wpList_load_rec rfl _ _ rfl gS rfl _ 24 stateT hS rfl ?_)
    | fail)
  refine (HB1.out _ Q).mono ?_; rintro e wa ⟨P3, C3, rfl, a3, b1⟩
  replace Q := btr Q b1
  replace hS := hS.below b1
  replace hP := hP.below b1
  replace hM := hM.below b1
  replace N1 := N1.below b1
  replace a1 := a1.below b1
  replace N2 := N2.below b1
  replace a2 := a2.below b1
  have one1 := a3.oneM
  obtain ⟨wb, hwb, N3, b2, Z1⟩ := put_newQ (W := wa) (vs := (itC I2 P3 C3)) rfl
  have HWB := Lib.hid hwb
  rw [zeroI_lit] at Z1 HWB
  replace Q := btr Q b2
  replace hS := hS.below b2
  replace hP := hP.below b2
  replace hM := hM.below b2
  replace N1 := N1.below b2
  replace a1 := a1.below b2
  replace N2 := N2.below b2
  replace a2 := a2.below b2
  replace a3 := a3.below b2
  clear hwb b1 b2 HB1
  go_upto_region 8 with (first
    | (refine wpList_store_rec rfl _ _ _ rfl wa.heap.size (itC I2 P3 C3) _ rfl rfl 21 itT Z1 rfl rfl one1 ?_; rw [← HWB.out])
    | fail)
  clear Z1 HWB one1
  obtain ⟨g3, hg3⟩ : ∃ g, g = wa.heap.size := ⟨_, rfl⟩
  rw [← hg3] at N3 ⊢
  clear hg3
  obtain ⟨wc, hwc⟩ : ∃ W, W = wb := ⟨_, rfl⟩
  rw [← hwc] at Q hS hP hM N1 N2 N3 a1 a2 a3 ⊢
  clear hwc
  go_wp2_with (first
    | (refine wpList_load_rec rfl _ _ rfl gS rfl _ 24 stateT hS rfl ?_)
    | fail)
  refine (HB2.out _ Q).mono ?_; rintro e wa ⟨P4, C4, rfl, a4, b1⟩
  replace Q := btr Q b1
  replace hS := hS.below b1
  replace hP := hP.below b1
  replace hM := hM.below b1
  replace N1 := N1.below b1
  replace a1 := a1.below b1
  replace N2 := N2.below b1
  replace a2 := a2.below b1
  replace N3 := N3.below b1
  replace a3 := a3.below b1
  have one1 := a4.oneM
  obtain ⟨wb, hwb, N4, b2, Z1⟩ := put_newQ (W := wa) (vs := (itC I2 P4 C4)) rfl
  have HWB := Lib.hid hwb
  rw [zeroI_lit] at Z1 HWB
  replace Q := btr Q b2
  replace hS := hS.below b2
  replace hP := hP.below b2
  replace hM := hM.below b2
  replace N1 := N1.below b2
  replace a1 := a1.below b2
  replace N2 := N2.below b2
  replace a2 := a2.below b2
  replace N3 := N3.below b2
  replace a3 := a3.below b2
  replace a4 := a4.below b2
  clear hwb b1 b2 HB2
  go_upto_region 9 with (first
    | (refine wpList_store_rec rfl _ _ _ rfl wa.heap.size (itC I2 P4 C4) _ rfl rfl 21 itT Z1 rfl rfl one1 ?_; rw [← HWB.out])
    | fail)
  clear Z1 HWB one1
  obtain ⟨g4, hg4⟩ : ∃ g, g = wa.heap.size := ⟨_, rfl⟩
  rw [← hg4] at N4 ⊢
  clear hg4
  obtain ⟨wc, hwc⟩ : ∃ W, W = wb := ⟨_, rfl⟩
  rw [← hwc] at Q hS hP hM N1 N2 N3 N4 a1 a2 a3 a4 ⊢
  clear hwc
  go_wp2_with (first
    | (refine wpList_load_rec rfl _ _ rfl gS rfl _ 24 stateT hS rfl ?_)
    | (refine wpList_load_rec rfl _ _ rfl gP rfl _ 4 imT hP rfl ?_)
    | (refine wpList_load_rec rfl _ _ rfl gM rfl _ 6 matT hM rfl ?_)
    | fail)
  refine (HC1.out _ Q).mono ?_; rintro e wa ⟨P5, C5, rfl, a5, b1⟩
  replace Q := btr Q b1
  replace hS := hS.below b1
  replace hP := hP.below b1
  replace hM := hM.below b1
  replace N1 := N1.below b1
  replace a1 := a1.below b1
  replace N2 := N2.below b1
  replace a2 := a2.below b1
  replace N3 := N3.below b1
  replace a3 := a3.below b1
  replace N4 := N4.below b1
  replace a4 := a4.below b1
  have one1 := a5.oneM
  obtain ⟨wb, hwb, N5, b2, Z1⟩ := put_newQ (W := wa) (vs := (itC I3 P5 C5)) rfl
  have HWB := Lib.hid hwb
  rw [zeroI_lit] at Z1 HWB
  replace Q := btr Q b2
  replace hS := hS.below b2
  replace hP := hP.below b2
  replace hM := hM.below b2
  replace N1 := N1.below b2
  replace a1 := a1.below b2
  replace N2 := N2.below b2
  replace a2 := a2.below b2
  replace N3 := N3.below b2
  replace a3 := a3.below b2
  replace N4 := N4.below b2
  replace a4 := a4.below b2
  replace a5 := a5.below b2
  clear hwb b1 b2 HC1
  go_upto_region 10 with (first
    | (refine wpList_store_rec rfl _ _ _ rfl wa.heap.size (itC I3 P5 C5) _ rfl rfl 21 itT Z1 rfl rfl one1 ?_; rw [← HWB.out])
    | fail)
  clear Z1 HWB one1
  obtain ⟨g5, hg5⟩ : ∃ g, g = wa.heap.size := ⟨_, rfl⟩
  rw [← hg5] at N5 ⊢
  clear hg5
  obtain ⟨wc, hwc⟩ : ∃ W, W = wb := ⟨_, rfl⟩
  rw [← hwc] at Q hS hP hM N1 N2 N3 N4 N5 a1 a2 a3 a4 a5 ⊢
  clear hwc
  go_wp2_with (first
    | (refine wpList_load_rec rfl _ _ rfl gS rfl _ 24 stateT hS rfl ?_)
    | (refine wpList_load_rec rfl _ _ rfl gP rfl _ 4 imT hP rfl ?_)
    | (refine wpList_load_rec rfl _ _ rfl gM rfl _ 6 matT hM rfl ?_)
    | fail)
  refine (HC2.out _ Q).mono ?_; rintro e wa ⟨P6, C6, rfl, a6, b1⟩
  replace Q := btr Q b1
  replace hS := hS.below b1
  replace hP := hP.below b1
  replace hM := hM.below b1
  replace N1 := N1.below b1
  replace a1 := a1.below b1
  replace N2 := N2.below b1
  replace a2 := a2.below b1
  replace N3 := N3.below b1
  replace a3 := a3.below b1
  replace N4 := N4.below b1
  replace a4 := a4.below b1
  replace N5 := N5.below b1
  replace a5 := a5.below b1
  have one1 := a6.oneM
  obtain ⟨wb, hwb, N6, b2, Z1⟩ := put_newQ (W := wa) (vs := (itC I3 P6 C6)) rfl
  have HWB := Lib.hid hwb
  rw [zeroI_lit] at Z1 HWB
  replace Q := btr Q b2
  replace hS := hS.below b2
  replace hP := hP.below b2
  replace hM := hM.below b2
  replace N1 := N1.below b2
  replace a1 := a1.below b2
  replace N2 := N2.below b2
  replace a2 := a2.below b2
  replace N3 := N3.below b2
  replace a3 := a3.below b2
  replace N4 := N4.below b2
  replace a4 := a4.below b2
  replace N5 := N5.below b2
  replace a5 := a5.below b2
  replace a6 := a6.below b2
  clear hwb b1 b2 HC2
  go_upto_region 11 with (first
    | (refine wpList_store_rec rfl _ _ _ rfl wa.heap.size (itC I3 P6 C6) _ rfl rfl 21 itT Z1 rfl rfl one1 ?_; rw [← HWB.out])
    | fail)
  clear Z1 HWB one1
  obtain ⟨g6, hg6⟩ : ∃ g, g = wa.heap.size := ⟨_, rfl⟩
  rw [← hg6] at N6 ⊢
  clear hg6
  obtain ⟨wc, hwc⟩ : ∃ W, W = wb := ⟨_, rfl⟩
  rw [← hwc] at Q hS hP hM N1 N2 N3 N4 N5 N6 a1 a2 a3 a4 a5 a6 ⊢
  clear hwc
  go_wp2_with (first
    | (refine wpList_load_rec rfl _ _ rfl gS rfl _ 24 stateT hS rfl ?_)
    | fail)
  refine (HD1.out _ Q).mono ?_; rintro e wa ⟨P7, C7, D7, rfl, a7, b1⟩
  replace Q := btr Q b1
  replace hS := hS.below b1
  replace hP := hP.below b1
  replace hM := hM.below b1
  replace N1 := N1.below b1
  replace a1 := a1.below b1
  replace N2 := N2.below b1
  replace a2 := a2.below b1
  replace N3 := N3.below b1
  replace a3 := a3.below b1
  replace N4 := N4.below b1
  replace a4 := a4.below b1
  replace N5 := N5.below b1
  replace a5 := a5.below b1
  replace N6 := N6.below b1
  replace a6 := a6.below b1
  have one1 := a7.one
  obtain ⟨wb, hwb, N7, b2, Z1⟩ := put_new (W := wa) (vs := (stC S4 P7 C7 D7)) rfl
  have HWB := Lib.hid hwb
  rw [zero_lit] at Z1 HWB
  replace Q := btr Q b2
  replace hS := hS.below b2
  replace hP := hP.below b2
  replace hM := hM.below b2
  replace N1 := N1.below b2
  replace a1 := a1.below b2
  replace N2 := N2.below b2
  replace a2 := a2.below b2
  replace N3 := N3.below b2
  replace a3 := a3.below b2
  replace N4 := N4.below b2
  replace a4 := a4.below b2
  replace N5 := N5.below b2
  replace a5 := a5.below b2
  replace N6 := N6.below b2
  replace a6 := a6.below b2
  replace a7 := a7.below b2
  clear hwb b1 b2 HD1
  go_upto_region 12 with (first
    | (refine wpList_store_rec rfl _ _ _ rfl wa.heap.size (stC S4 P7 C7 D7) _ rfl rfl 24 stateT Z1 rfl rfl one1 ?_; rw [← HWB.out])
    | fail)
  clear Z1 HWB one1
  obtain ⟨g7, hg7⟩ : ∃ g, g = wa.heap.size := ⟨_, rfl⟩
  rw [← hg7] at N7 ⊢
  clear hg7
  obtain ⟨wc, hwc⟩ : ∃ W, W = wb := ⟨_, rfl⟩
  rw [← hwc] at Q hS hP hM N1 N2 N3 N4 N5 N6 N7 a1 a2 a3 a4 a5 a6 a7 ⊢
  clear hwc
  go_wp2_with (first
    | (refine wpList_load_rec rfl _ _ rfl gS rfl _ 24 stateT hS rfl ?_)
    | fail)
  refine (HD2.out _ Q).mono ?_; rintro e wa ⟨P8, C8, D8, rfl, a8, b1⟩
  replace Q := btr Q b1
  replace hS := hS.below b1
  replace hP := hP.below b1
  replace hM := hM.below b1
  replace N1 := N1.below b1
  replace a1 := a1.below b1
  replace N2 := N2.below b1
  replace a2 := a2.below b1
  replace N3 := N3.below b1
  replace a3 := a3.below b1
  replace N4 := N4.below b1
  replace a4 := a4.below b1
  replace N5 := N5.below b1
  replace a5 := a5.below b1
  replace N6 := N6.below b1
  replace a6 := a6.below b1
  replace N7 := N7.below b1
  replace a7 := a7.below b1
  have one1 := a8.one
  obtain ⟨wb, hwb, N8, b2, Z1⟩ := put_new (W := wa) (vs := (stC S4 P8 C8 D8)) rfl
  have HWB := Lib.hid hwb
  rw [zero_lit] at Z1 HWB
  replace Q := btr Q b2
  replace hS := hS.below b2
  replace hP := hP.below b2
  replace hM := hM.below b2
  replace N1 := N1.below b2
  replace a1 := a1.below b2
  replace N2 := N2.below b2
  replace a2 := a2.below b2
  replace N3 := N3.below b2
  replace a3 := a3.below b2
  replace N4 := N4.below b2
  replace a4 := a4.below b2
  replace N5 := N5.below b2
  replace a5 := a5.below b2
  replace N6 := N6.below b2
  replace a6 := a6.below b2
  replace N7 := N7.below b2
  replace a7 := a7.below b2
  replace a8 := a8.below b2
  clear hwb b1 b2 HD2
  go_upto_region 13 with (first
    | (refine wpList_store_rec rfl _ _ _ rfl wa.heap.size (stC S4 P8 C8 D8) _ rfl rfl 24 stateT Z1 rfl rfl one1 ?_; rw [← HWB.out])
    | fail)
  clear Z1 HWB one1
  obtain ⟨g8, hg8⟩ : ∃ g, g = wa.heap.size := ⟨_, rfl⟩
  rw [← hg8] at N8 ⊢
  clear hg8
  obtain ⟨wc, hwc⟩ : ∃ W, W = wb := ⟨_, rfl⟩
  rw [← hwc] at Q hS hP hM N1 N2 N3 N4 N5 N6 N7 N8 a1 a2 a3 a4 a5 a6 a7 a8 ⊢
  clear hwc
  go_wp2_with (first
    | (refine wpList_load_rec rfl _ _ rfl gS rfl _ 24 stateT hS rfl ?_)
    | (refine wpList_load_rec rfl _ _ rfl gM rfl _ 6 matT hM rfl ?_)
    | fail)
  refine (HE1.out _ Q).mono ?_; rintro e wa ⟨P9, C9, D9, rfl, a9, b1⟩
  replace Q := btr Q b1
  replace hS := hS.below b1
  replace hP := hP.below b1
  replace hM := hM.below b1
  replace N1 := N1.below b1
  replace a1 := a1.below b1
  replace N2 := N2.below b1
  replace a2 := a2.below b1
  replace N3 := N3.below b1
  replace a3 := a3.below b1
  replace N4 := N4.below b1
  replace a4 := a4.below b1
  replace N5 := N5.below b1
  replace a5 := a5.below b1
  replace N6 := N6.below b1
  replace a6 := a6.below b1
  replace N7 := N7.below b1
  replace a7 := a7.below b1
  replace N8 := N8.below b1
  replace a8 := a8.below b1
  have one1 := a9.one
  obtain ⟨wb, hwb, N9, b2, Z1⟩ := put_new (W := wa) (vs := (stC S5 P9 C9 D9)) rfl
  have HWB := Lib.hid hwb
  rw [zero_lit] at Z1 HWB
  replace Q := btr Q b2
  replace hS := hS.below b2
  replace hP := hP.below b2
  replace hM := hM.below b2
  replace N1 := N1.below b2
  replace a1 := a1.below b2
  replace N2 := N2.below b2
  replace a2 := a2.below b2
  replace N3 := N3.below b2
  replace a3 := a3.below b2
  replace N4 := N4.below b2
  replace a4 := a4.below b2
  replace N5 := N5.below b2
  replace a5 := a5.below b2
  replace N6 := N6.below b2
  replace a6 := a6.below b2
  replace N7 := N7.below b2
  replace a7 := a7.below b2
  replace N8 := N8.below b2
  replace a8 := a8.below b2
  replace a9 := a9.below b2
  clear hwb b1 b2 HE1
  go_upto_region 14 with (first
    | (refine wpList_store_rec rfl _ _ _ rfl wa.heap.size (stC S5 P9 C9 D9) _ rfl rfl 24 stateT Z1 rfl rfl one1 ?_; rw [← HWB.out])
    | fail)
  clear Z1 HWB one1
  obtain ⟨g9, hg9⟩ : ∃ g, g = wa.heap.size := ⟨_, rfl⟩
  rw [← hg9] at N9 ⊢
  clear hg9
  obtain ⟨wc, hwc⟩ : ∃ W, W = wb := ⟨_, rfl⟩
  rw [← hwc] at Q hS hP hM N1 N2 N3 N4 N5 N6 N7 N8 N9 a1 a2 a3 a4 a5 a6 a7 a8 a9 ⊢
  clear hwc
  go_wp2_with (first
    | (refine wpList_load_rec rfl _ _ rfl gS rfl _ 24 stateT hS rfl ?_)
    | (refine wpList_load_rec rfl _ _ rfl gM rfl _ 6 matT hM rfl ?_)
    | fail)
  refine (HE2.out _ Q).mono ?_; rintro e wa ⟨P10, C10, D10, rfl, a10, b1⟩
  replace Q := btr Q b1
  replace hS := hS.below b1
  replace hP := hP.below b1
  replace hM := hM.below b1
  replace N1 := N1.below b1
  replace a1 := a1.below b1
  replace N2 := N2.below b1
  replace a2 := a2.below b1
  replace N3 := N3.below b1
  replace a3 := a3.below b1
  replace N4 := N4.below b1
  replace a4 := a4.below b1
  replace N5 := N5.below b1
  replace a5 := a5.below b1
  replace N6 := N6.below b1
  replace a6 := a6.below b1
  replace N7 := N7.below b1
  replace a7 := a7.below b1
  replace N8 := N8.below b1
  replace a8 := a8.below b1
  replace N9 := N9.below b1
  replace a9 := a9.below b1
  have one1 := a10.one
  obtain ⟨wb, hwb, N10, b2, Z1⟩ := put_new (W := wa) (vs := (stC S5 P10 C10 D10)) rfl
  have HWB := Lib.hid hwb
  rw [zero_lit] at Z1 HWB
  replace Q := btr Q b2
  replace hS := hS.below b2
  replace hP := hP.below b2
  replace hM := hM.below b2
  replace N1 := N1.below b2
  replace a1 := a1.below b2
  replace N2 := N2.below b2
  replace a2 := a2.below b2
  replace N3 := N3.below b2
  replace a3 := a3.below b2
  replace N4 := N4.below b2
  replace a4 := a4.below b2
  replace N5 := N5.below b2
  replace a5 := a5.below b2
  replace N6 := N6.below b2
  replace a6 := a6.below b2
  replace N7 := N7.below b2
  replace a7 := a7.below b2
  replace N8 := N8.below b2
  replace a8 := a8.below b2
  replace N9 := N9.below b2
  replace a9 := a9.below b2
  replace a10 := a10.below b2
  clear hwb b1 b2 HE2
  go_upto_region 15 with (first
    | (refine wpList_store_rec rfl _ _ _ rfl wa.heap.size (stC S5 P10 C10 D10) _ rfl rfl 24 stateT Z1 rfl rfl one1 ?_; rw [← HWB.out])
    | fail)
  clear Z1 HWB one1
  obtain ⟨g10, hg10⟩ : ∃ g, g = wa.heap.size := ⟨_, rfl⟩
  rw [← hg10] at N10 ⊢
  clear hg10
  obtain ⟨wc, hwc⟩ : ∃ W, W = wb := ⟨_, rfl⟩
  rw [← hwc] at Q hS hP hM N1 N2 N3 N4 N5 N6 N7 N8 N9 N10 a1 a2 a3 a4 a5 a6 a7 a8 a9 a10 ⊢
  clear hwc
  clear hS hP hM
  go_wp2_with (first
    | (refine wpList_load_rec rfl _ _ rfl g1 rfl _ 21 itT N1 rfl ?_)
    | (refine wpList_load_rec rfl _ _ rfl g2 rfl _ 21 itT N2 rfl ?_)
    | fail)
  refine (helpItem_any I1 P1 C1 P2 C2 _ a1 a2 F1.out).mono ?_; rintro e wz0 ⟨rfl, b1⟩
  replace Q := btr Q b1
  replace N3 := N3.below b1
  replace a3 := a3.below b1
  replace N4 := N4.below b1
  replace a4 := a4.below b1
  replace N5 := N5.below b1
  replace a5 := a5.below b1
  replace N6 := N6.below b1
  replace a6 := a6.below b1
  replace N7 := N7.below b1
  replace a7 := a7.below b1
  replace N8 := N8.below b1
  replace a8 := a8.below b1
  replace N9 := N9.below b1
  replace a9 := a9.below b1
  replace N10 := N10.below b1
  replace a10 := a10.below b1
  clear b1
  go_wp2_with (first
    | (refine wpList_load_rec_g (by kernel_rfl) _ _ rfl g3 rfl _ 21 itT N3 rfl ?_)
    | (refine wpList_load_rec_g (by kernel_rfl) _ _ rfl g4 rfl _ 21 itT N4 rfl ?_)
    | fail)
  refine (helpItem_any I2 P3 C3 P4 C4 _ a3 a4 F2.out).mono ?_; rintro e wz1 ⟨rfl, b1⟩
  replace Q := btr Q b1
  replace N5 := N5.below b1
  replace a5 := a5.below b1
  replace N6 := N6.below b1
  replace a6 := a6.below b1
  replace N7 := N7.below b1
  replace a7 := a7.below b1
  replace N8 := N8.below b1
  replace a8 := a8.below b1
  replace N9 := N9.below b1
  replace a9 := a9.below b1
  replace N10 := N10.below b1
  replace a10 := a10.below b1
  clear b1
  go_wp2_with (first
    | (refine wpList_load_rec_g (by kernel_rfl) _ _ rfl g5 rfl _ 21 itT N5 rfl ?_)
    | (refine wpList_load_rec_g (by kernel_rfl) _ _ rfl g6 rfl _ 21 itT N6 rfl ?_)
    | fail)
  refine (helpItem_any I3 P5 C5 P6 C6 _ a5 a6 F3.out).mono ?_; rintro e wz2 ⟨rfl, b1⟩
  replace Q := btr Q b1
  replace N7 := N7.below b1
  replace a7 := a7.below b1
  replace N8 := N8.below b1
  replace a8 := a8.below b1
  replace N9 := N9.below b1
  replace a9 := a9.below b1
  replace N10 := N10.below b1
  replace a10 := a10.below b1
  clear b1
  go_wp2_with (first
    | (refine wpList_load_rec_g (by kernel_rfl) _ _ rfl g7 rfl _ 24 stateT N7 rfl ?_)
    | (refine wpList_load_rec_g (by kernel_rfl) _ _ rfl g8 rfl _ 24 stateT N8 rfl ?_)
    | fail)
  refine (helpState_any S4 P7 C7 D7 P8 C8 D8 _ a7 a8 F4.out).mono ?_; rintro e wz3 ⟨rfl, b1⟩
  replace Q := btr Q b1
  replace N9 := N9.below b1
  replace a9 := a9.below b1
  replace N10 := N10.below b1
  replace a10 := a10.below b1
  clear b1
  go_wp2_with (first
    | (refine wpList_load_rec_g (by kernel_rfl) _ _ rfl g9 rfl _ 24 stateT N9 rfl ?_)
    | (refine wpList_load_rec_g (by kernel_rfl) _ _ rfl g10 rfl _ 24 stateT N10 rfl ?_)
    | fail)
  refine (helpState_any S5 P9 C9 D9 P10 C10 D10 _ a9 a10 F5.out).mono ?_; rintro e wz4 ⟨rfl, b1⟩
  replace Q := btr Q b1
  clear b1
  go_wp2_with fail
  go_ret
  exact ⟨rfl, Q⟩
end Go.Proofs.YtdfkbbcoolgfiaaGreat
