/- StateMoves: the walk. -/
import Derived.Test.YtaadajadeemndaaStRectR
import Derived.Test.YtaadajadeemndaaHelpState
import Derived.Test.YtaadajadeemndaaFew
import Derived.Test.YtaadajadeemndaaKnown42
namespace Go.Proofs.Ytaadajadeemndaa
open Go.RowKit Go.BigFrame

theorem zeroS_few : stFew zeroS := ⟨by simp [zeroS], by simp [zeroS], by simp [zeroS], by simp [zeroS]⟩
theorem withS_few {x : St} (hf : stFew x) {E : List Sg × Int} (hE : E.1.length ≤ 300) : stFew (withS x E).1 := by
  unfold withS
  split
  · exact zeroS_few
  · exact ⟨by show E.1.length ≤ 1000; omega, hf.2.1, hf.2.2.1, hf.2.2.2⟩
theorem toS_few {x : St} (hf : stFew x) {F : Int → Int → List Sg × Int} (hF : ∀ a b, (F a b).1.length ≤ 300) (u v : Int) (d : Bool) : stFew (toS F x u v d).1 := by
  unfold toS
  split
  · exact zeroS_few
  · split
    · exact zeroS_few
    · exact withS_few hf (hF _ _)
theorem bowS_few {x : St} (hf : stFew x) (cu cv u v : Int) (d : Bool) : stFew (bowS x cu cv u v d).1 := by
  unfold bowS
  split
  · exact zeroS_few
  · split
    · exact zeroS_few
    · split
      · exact zeroS_few
      · exact withS_few hf (onL_le _ _)
theorem rectS_few {x : St} (hf : stFew x) (u v wd ht : Int) : stFew (rectS x u v wd ht).1 := by
  unfold rectS
  split
  · exact zeroS_few
  · split
    · exact zeroS_few
    · exact withS_few hf (joinL_le _ _)
theorem shutS_few {x : St} (hf : stFew x) : stFew (shutS x).1 := by
  unfold shutS
  split
  · exact zeroS_few
  · exact withS_few hf (shutL_le _)
set_option maxRecDepth 100000 in
set_option maxHeartbeats 8000000 in
theorem StateMoves_any (x : St) (P C D : Value) (cu cv u v : Int) (d : Bool) (w : World) (h : StAt w x P C D) (hr : stReach x) :
    Calls Try.prog 6 #[.agg (stC x P C D).toArray, .int .i64 cu, .int .i64 cv, .int .i64 u, .int .i64 v, .bool d] w fun e w' => e = .returned (.bool true) ∧ Below w.heap.size w w' := by
  obtain ⟨w0, hw0⟩ : ∃ w0 : World, w0 = w.alloc (.cells (stC x P C D).toArray 34) := ⟨_, rfl⟩
  have hB0 : Below w.heap.size w w0 := by rw [hw0]; exact bal (Below.refl _ _) _
  have hA : BC w0 w.heap.size (stC x P C D) := by rw [hw0]; exact BC.new (stC x P C D) 34 rfl
  have h0 := h.below hB0
  have HS := Lib.hid h
  have HFw := Lib.hid fun W (hb : Below w0.heap.size w0 W) => few_any x P C D W (h0.below hb) hr
  have HA := Lib.hid hA
  clear h0 h hA
  go_enter Try.func6, Try.ntmps6
  go_upto_region 1 with (fail)
  rw [← hw0]
  clear hw0
  go_wp2_with fail
  refine (known42_any _).mono ?_; rintro e w1 ⟨rfl, G1⟩
  have A1 := HA.out.below G1
  go_wp2_with (first
    | (refine wpList_load_rec rfl _ _ rfl w.heap.size rfl _ 24 stT A1 rfl ?_)
    | fail)
  refine (HFw.out _ G1).mono ?_; rintro e w2 ⟨rfl, hb2⟩
  have G2 := btr G1 hb2
  clear hb2 A1 HFw
  cases hfw : fewB x
  · go_wp2_with fail
    go_ret
    exact ⟨rfl, btr hB0 G2⟩
  have HFEW : Hid (stFew x) := Lib.hid (fewB_few hfw)
  clear hfw
  go_wp2_with fail
  go_loopw [13] (fun s13 wr => ∃ i : Nat, i ≤ 5 ∧ s13 = .int .i64 (i : Int) ∧ Below w0.heap.size w0 wr) (fun s13 _ => 5 - (intOf s13).toNat)
  case atStart => exact ⟨0, by omega, rfl, G2⟩
  case round =>
    obtain ⟨wo, rfl⟩ : ∃ wo : World, wo = wr := ⟨_, rfl⟩
    obtain ⟨i, hi, rfl, hbo⟩ := hrel
    have hc : i = 0 ∨ i = 1 ∨ i = 2 ∨ i = 3 ∨ i = 4 ∨ i = 5 := by omega
    rcases hc with rfl | rfl | rfl | rfl | rfl | rfl
    · obtain ⟨Y, hY⟩ : ∃ Y, toS (fun a b => startL x.p a b) x u v d = Y := ⟨_, rfl⟩
      have hYf : stFew Y.1 := by rw [← hY]; exact toS_few HFEW.out (fun _ _ => startL_le _ _ _) _ _ _
      have HY := Lib.hid hY
      have HYF := Lib.hid hYf
      clear hY hYf
      obtain ⟨w2, hw2⟩ : ∃ w2, w2 = (wo.alloc (.cells (stC zeroS (.slice none 0 0) (.slice none 0 0) (.slice none 0 0)).toArray 34)).alloc (.cells (stC zeroS (.slice none 0 0) (.slice none 0 0) (.slice none 0 0)).toArray 34) := ⟨_, rfl⟩
      have z1 : BC w2 wo.heap.size (stC zeroS (.slice none 0 0) (.slice none 0 0) (.slice none 0 0)) := by rw [hw2]; exact (BC.new (stC zeroS (.slice none 0 0) (.slice none 0 0) (.slice none 0 0)) 34 rfl).below (bal (Below.refl _ _) _)
      have z2 : BC w2 (wo.heap.size + 1) (stC zeroS (.slice none 0 0) (.slice none 0 0) (.slice none 0 0)) := by rw [hw2]; exact BC.new (w := wo.alloc (.cells (stC zeroS (.slice none 0 0) (.slice none 0 0) (.slice none 0 0)).toArray 34)) _ 34 (by simp)
      have b2 : Below wo.heap.size wo w2 := by rw [hw2]; exact bal (bal (Below.refl _ _) _) _
      have G2 := btr hbo b2
      have A2 := HA.out.below G2
      have l1 := z1.lt
      have l2 := z2.lt
      have HZ1 := Lib.hid z1
      have HZ2 := Lib.hid z2
      rw [zero_lit] at hw2
      go_upto_region 9 with (fail)
      rw [← hw2]
      clear hw2 z1 z2
      go_wp2_with (first
        | (refine wpList_load_rec rfl _ _ rfl w.heap.size rfl _ 24 stT A2 rfl ?_)
        | fail)
      refine (stMove_any x P C D u v d Y w2 (HS.out.below (btr hB0 G2)) HY.out).mono ?_; rintro e w3 ⟨P3, C3, D3, rfl, ho3, hb3⟩
      have A3 := HZ1.out.below hb3
      have one3 := ho3.at.one
      have p4 := A3.putAll (stC Y.1 P3 C3 D3) rfl
      have q4 := (HZ2.out.below hb3).apart (show wo.heap.size + 1 ≠ wo.heap.size by omega) 0 (stC Y.1 P3 C3 D3)
      have ho4 := ho3.setCells l1 0 (stC Y.1 P3 C3 D3)
      have G4 : Below w0.heap.size w0 (w3.setCells wo.heap.size 0 (stC Y.1 P3 C3 D3)) := below_setCells hbo.size _ _ _ (btr G2 hb3)
      obtain ⟨w4, hw4⟩ : ∃ w4, w4 = w3.setCells wo.heap.size 0 (stC Y.1 P3 C3 D3) := ⟨_, rfl⟩
      have hs4 : w3.heap.size = w4.heap.size := by rw [hw4, setCells_size]
      have l4 : wo.heap.size + 1 < w4.heap.size := by rw [← hs4]; have := hb3.size; omega
      rw [← hw4] at p4 q4 ho4 G4
      have HW4 := Lib.hid hw4
      have HO4 := Lib.hid ho4
      have A4 := HA.out.below G4
      have HP4 := Lib.hid p4
      have HQ4 := Lib.hid q4
      clear hw4 hs4 ho4 ho3 hb3 p4 q4 b2 G2
      go_wp2_with (first
        | (refine wpList_store_rec rfl _ _ _ rfl wo.heap.size (stC Y.1 P3 C3 D3) _ rfl rfl 24 stT A3 rfl rfl one3 ?_; rw [← HW4.out])
        | (refine wpList_load_rec rfl _ _ rfl w.heap.size rfl _ 24 stT A4 rfl ?_)
        | fail)
      refine (rMoveS_any x P C D u v d Y w4 (HS.out.below (btr hB0 G4)) HFEW.out HY.out).mono ?_; rintro e w5 ⟨P5, C5, D5, rfl, ho5, hb5⟩
      have G5 := btr G4 hb5
      have hx5 := HS.out.below (btr hB0 G5)
      have one5 := ho5.one hx5
      have A5 := HQ4.out.below hb5
      have p6 := A5.putAll (stC Y.1 P5 C5 D5) rfl
      have q6 := (HP4.out.below hb5).apart (show wo.heap.size ≠ wo.heap.size + 1 by omega) 0 (stC Y.1 P5 C5 D5)
      have G6 : Below w0.heap.size w0 (w5.setCells (wo.heap.size + 1) 0 (stC Y.1 P5 C5 D5)) := below_setCells (Nat.le_trans hbo.size (Nat.le_succ _)) _ _ _ G5
      have ho6 := (ho5.setCells l4 0 (stC Y.1 P5 C5 D5)).at (HS.out.below (btr hB0 G6))
      have k6 : StAt (w5.setCells (wo.heap.size + 1) 0 (stC Y.1 P5 C5 D5)) Y.1 P3 C3 D3 := ((HO4.out.below hb5).setCells l2 0 (stC Y.1 P5 C5 D5)).at
      obtain ⟨w6, hw6⟩ : ∃ w6, w6 = w5.setCells (wo.heap.size + 1) 0 (stC Y.1 P5 C5 D5) := ⟨_, rfl⟩
      rw [← hw6] at p6 q6 ho6 k6 G6
      have HW6 := Lib.hid hw6
      have HC := Lib.hid (helpState_any Y.1 P3 C3 D3 P5 C5 D5 w6 k6 ho6 HYF.out)
      have hne : (Y.2 == Y.2) = true := by simp
      clear hw6 ho6 k6 hx5 ho5 hb5
      go_wp2_with (first
        | (refine wpList_store_rec rfl _ _ _ rfl (wo.heap.size + 1) (stC Y.1 P5 C5 D5) _ rfl rfl 24 stT A5 rfl rfl one5 ?_; rw [← HW6.out])
        | (refine wpList_load_rec_g (by kernel_rfl) _ _ rfl wo.heap.size rfl _ 24 stT q6 rfl ?_)
        | (refine wpList_load_rec_g (by kernel_rfl) _ _ rfl (wo.heap.size + 1) rfl _ 24 stT p6 rfl ?_)
        | fail)
      refine HC.out.mono ?_; rintro e w7 ⟨rfl, hb7⟩
      have G7 := btr G6 hb7
      go_wp2_with fail
      go_roundw
      case rel => exact ⟨0 + 1, by omega, by go_num, G7⟩
      case measure => simp [intOf]
    · obtain ⟨Y, hY⟩ : ∃ Y, toS (fun a b => onL x.p ⟨2, a, b, 0, 0⟩) x u v d = Y := ⟨_, rfl⟩
      have hYf : stFew Y.1 := by rw [← hY]; exact toS_few HFEW.out (fun _ _ => onL_le _ _) _ _ _
      have HY := Lib.hid hY
      have HYF := Lib.hid hYf
      clear hY hYf
      obtain ⟨w2, hw2⟩ : ∃ w2, w2 = (wo.alloc (.cells (stC zeroS (.slice none 0 0) (.slice none 0 0) (.slice none 0 0)).toArray 34)).alloc (.cells (stC zeroS (.slice none 0 0) (.slice none 0 0) (.slice none 0 0)).toArray 34) := ⟨_, rfl⟩
      have z1 : BC w2 wo.heap.size (stC zeroS (.slice none 0 0) (.slice none 0 0) (.slice none 0 0)) := by rw [hw2]; exact (BC.new (stC zeroS (.slice none 0 0) (.slice none 0 0) (.slice none 0 0)) 34 rfl).below (bal (Below.refl _ _) _)
      have z2 : BC w2 (wo.heap.size + 1) (stC zeroS (.slice none 0 0) (.slice none 0 0) (.slice none 0 0)) := by rw [hw2]; exact BC.new (w := wo.alloc (.cells (stC zeroS (.slice none 0 0) (.slice none 0 0) (.slice none 0 0)).toArray 34)) _ 34 (by simp)
      have b2 : Below wo.heap.size wo w2 := by rw [hw2]; exact bal (bal (Below.refl _ _) _) _
      have G2 := btr hbo b2
      have A2 := HA.out.below G2
      have l1 := z1.lt
      have l2 := z2.lt
      have HZ1 := Lib.hid z1
      have HZ2 := Lib.hid z2
      rw [zero_lit] at hw2
      go_upto_region 9 with (fail)
      rw [← hw2]
      clear hw2 z1 z2
      go_wp2_with (first
        | (refine wpList_load_rec rfl _ _ rfl w.heap.size rfl _ 24 stT A2 rfl ?_)
        | fail)
      refine (stLine_any x P C D u v d Y w2 (HS.out.below (btr hB0 G2)) HY.out).mono ?_; rintro e w3 ⟨P3, C3, D3, rfl, ho3, hb3⟩
      have A3 := HZ1.out.below hb3
      have one3 := ho3.at.one
      have p4 := A3.putAll (stC Y.1 P3 C3 D3) rfl
      have q4 := (HZ2.out.below hb3).apart (show wo.heap.size + 1 ≠ wo.heap.size by omega) 0 (stC Y.1 P3 C3 D3)
      have ho4 := ho3.setCells l1 0 (stC Y.1 P3 C3 D3)
      have G4 : Below w0.heap.size w0 (w3.setCells wo.heap.size 0 (stC Y.1 P3 C3 D3)) := below_setCells hbo.size _ _ _ (btr G2 hb3)
      obtain ⟨w4, hw4⟩ : ∃ w4, w4 = w3.setCells wo.heap.size 0 (stC Y.1 P3 C3 D3) := ⟨_, rfl⟩
      have hs4 : w3.heap.size = w4.heap.size := by rw [hw4, setCells_size]
      have l4 : wo.heap.size + 1 < w4.heap.size := by rw [← hs4]; have := hb3.size; omega
      rw [← hw4] at p4 q4 ho4 G4
      have HW4 := Lib.hid hw4
      have HO4 := Lib.hid ho4
      have A4 := HA.out.below G4
      have HP4 := Lib.hid p4
      have HQ4 := Lib.hid q4
      clear hw4 hs4 ho4 ho3 hb3 p4 q4 b2 G2
      go_wp2_with (first
        | (refine wpList_store_rec rfl _ _ _ rfl wo.heap.size (stC Y.1 P3 C3 D3) _ rfl rfl 24 stT A3 rfl rfl one3 ?_; rw [← HW4.out])
        | (refine wpList_load_rec rfl _ _ rfl w.heap.size rfl _ 24 stT A4 rfl ?_)
        | fail)
      refine (rLineS_any x P C D u v d Y w4 (HS.out.below (btr hB0 G4)) HFEW.out HY.out).mono ?_; rintro e w5 ⟨P5, C5, D5, rfl, ho5, hb5⟩
      have G5 := btr G4 hb5
      have hx5 := HS.out.below (btr hB0 G5)
      have one5 := ho5.one hx5
      have A5 := HQ4.out.below hb5
      have p6 := A5.putAll (stC Y.1 P5 C5 D5) rfl
      have q6 := (HP4.out.below hb5).apart (show wo.heap.size ≠ wo.heap.size + 1 by omega) 0 (stC Y.1 P5 C5 D5)
      have G6 : Below w0.heap.size w0 (w5.setCells (wo.heap.size + 1) 0 (stC Y.1 P5 C5 D5)) := below_setCells (Nat.le_trans hbo.size (Nat.le_succ _)) _ _ _ G5
      have ho6 := (ho5.setCells l4 0 (stC Y.1 P5 C5 D5)).at (HS.out.below (btr hB0 G6))
      have k6 : StAt (w5.setCells (wo.heap.size + 1) 0 (stC Y.1 P5 C5 D5)) Y.1 P3 C3 D3 := ((HO4.out.below hb5).setCells l2 0 (stC Y.1 P5 C5 D5)).at
      obtain ⟨w6, hw6⟩ : ∃ w6, w6 = w5.setCells (wo.heap.size + 1) 0 (stC Y.1 P5 C5 D5) := ⟨_, rfl⟩
      rw [← hw6] at p6 q6 ho6 k6 G6
      have HW6 := Lib.hid hw6
      have HC := Lib.hid (helpState_any Y.1 P3 C3 D3 P5 C5 D5 w6 k6 ho6 HYF.out)
      have hne : (Y.2 == Y.2) = true := by simp
      clear hw6 ho6 k6 hx5 ho5 hb5
      go_wp2_with (first
        | (refine wpList_store_rec rfl _ _ _ rfl (wo.heap.size + 1) (stC Y.1 P5 C5 D5) _ rfl rfl 24 stT A5 rfl rfl one5 ?_; rw [← HW6.out])
        | (refine wpList_load_rec_g (by kernel_rfl) _ _ rfl wo.heap.size rfl _ 24 stT q6 rfl ?_)
        | (refine wpList_load_rec_g (by kernel_rfl) _ _ rfl (wo.heap.size + 1) rfl _ 24 stT p6 rfl ?_)
        | fail)
      refine HC.out.mono ?_; rintro e w7 ⟨rfl, hb7⟩
      have G7 := btr G6 hb7
      go_wp2_with fail
      go_roundw
      case rel => exact ⟨1 + 1, by omega, by go_num, G7⟩
      case measure => simp [intOf]
    · obtain ⟨Y, hY⟩ : ∃ Y, bowS x cu cv u v d = Y := ⟨_, rfl⟩
      have hYf : stFew Y.1 := by rw [← hY]; exact bowS_few HFEW.out _ _ _ _ _
      have HY := Lib.hid hY
      have HYF := Lib.hid hYf
      clear hY hYf
      obtain ⟨w2, hw2⟩ : ∃ w2, w2 = (wo.alloc (.cells (stC zeroS (.slice none 0 0) (.slice none 0 0) (.slice none 0 0)).toArray 34)).alloc (.cells (stC zeroS (.slice none 0 0) (.slice none 0 0) (.slice none 0 0)).toArray 34) := ⟨_, rfl⟩
      have z1 : BC w2 wo.heap.size (stC zeroS (.slice none 0 0) (.slice none 0 0) (.slice none 0 0)) := by rw [hw2]; exact (BC.new (stC zeroS (.slice none 0 0) (.slice none 0 0) (.slice none 0 0)) 34 rfl).below (bal (Below.refl _ _) _)
      have z2 : BC w2 (wo.heap.size + 1) (stC zeroS (.slice none 0 0) (.slice none 0 0) (.slice none 0 0)) := by rw [hw2]; exact BC.new (w := wo.alloc (.cells (stC zeroS (.slice none 0 0) (.slice none 0 0) (.slice none 0 0)).toArray 34)) _ 34 (by simp)
      have b2 : Below wo.heap.size wo w2 := by rw [hw2]; exact bal (bal (Below.refl _ _) _) _
      have G2 := btr hbo b2
      have A2 := HA.out.below G2
      have l1 := z1.lt
      have l2 := z2.lt
      have HZ1 := Lib.hid z1
      have HZ2 := Lib.hid z2
      rw [zero_lit] at hw2
      go_upto_region 9 with (fail)
      rw [← hw2]
      clear hw2 z1 z2
      go_wp2_with (first
        | (refine wpList_load_rec rfl _ _ rfl w.heap.size rfl _ 24 stT A2 rfl ?_)
        | fail)
      refine (stBow_any x P C D cu cv u v d Y w2 (HS.out.below (btr hB0 G2)) HY.out).mono ?_; rintro e w3 ⟨P3, C3, D3, rfl, ho3, hb3⟩
      have A3 := HZ1.out.below hb3
      have one3 := ho3.at.one
      have p4 := A3.putAll (stC Y.1 P3 C3 D3) rfl
      have q4 := (HZ2.out.below hb3).apart (show wo.heap.size + 1 ≠ wo.heap.size by omega) 0 (stC Y.1 P3 C3 D3)
      have ho4 := ho3.setCells l1 0 (stC Y.1 P3 C3 D3)
      have G4 : Below w0.heap.size w0 (w3.setCells wo.heap.size 0 (stC Y.1 P3 C3 D3)) := below_setCells hbo.size _ _ _ (btr G2 hb3)
      obtain ⟨w4, hw4⟩ : ∃ w4, w4 = w3.setCells wo.heap.size 0 (stC Y.1 P3 C3 D3) := ⟨_, rfl⟩
      have hs4 : w3.heap.size = w4.heap.size := by rw [hw4, setCells_size]
      have l4 : wo.heap.size + 1 < w4.heap.size := by rw [← hs4]; have := hb3.size; omega
      rw [← hw4] at p4 q4 ho4 G4
      have HW4 := Lib.hid hw4
      have HO4 := Lib.hid ho4
      have A4 := HA.out.below G4
      have HP4 := Lib.hid p4
      have HQ4 := Lib.hid q4
      clear hw4 hs4 ho4 ho3 hb3 p4 q4 b2 G2
      go_wp2_with (first
        | (refine wpList_store_rec rfl _ _ _ rfl wo.heap.size (stC Y.1 P3 C3 D3) _ rfl rfl 24 stT A3 rfl rfl one3 ?_; rw [← HW4.out])
        | (refine wpList_load_rec rfl _ _ rfl w.heap.size rfl _ 24 stT A4 rfl ?_)
        | fail)
      refine (rBowS_any x P C D cu cv u v d Y w4 (HS.out.below (btr hB0 G4)) HFEW.out HY.out).mono ?_; rintro e w5 ⟨P5, C5, D5, rfl, ho5, hb5⟩
      have G5 := btr G4 hb5
      have hx5 := HS.out.below (btr hB0 G5)
      have one5 := ho5.one hx5
      have A5 := HQ4.out.below hb5
      have p6 := A5.putAll (stC Y.1 P5 C5 D5) rfl
      have q6 := (HP4.out.below hb5).apart (show wo.heap.size ≠ wo.heap.size + 1 by omega) 0 (stC Y.1 P5 C5 D5)
      have G6 : Below w0.heap.size w0 (w5.setCells (wo.heap.size + 1) 0 (stC Y.1 P5 C5 D5)) := below_setCells (Nat.le_trans hbo.size (Nat.le_succ _)) _ _ _ G5
      have ho6 := (ho5.setCells l4 0 (stC Y.1 P5 C5 D5)).at (HS.out.below (btr hB0 G6))
      have k6 : StAt (w5.setCells (wo.heap.size + 1) 0 (stC Y.1 P5 C5 D5)) Y.1 P3 C3 D3 := ((HO4.out.below hb5).setCells l2 0 (stC Y.1 P5 C5 D5)).at
      obtain ⟨w6, hw6⟩ : ∃ w6, w6 = w5.setCells (wo.heap.size + 1) 0 (stC Y.1 P5 C5 D5) := ⟨_, rfl⟩
      rw [← hw6] at p6 q6 ho6 k6 G6
      have HW6 := Lib.hid hw6
      have HC := Lib.hid (helpState_any Y.1 P3 C3 D3 P5 C5 D5 w6 k6 ho6 HYF.out)
      have hne : (Y.2 == Y.2) = true := by simp
      clear hw6 ho6 k6 hx5 ho5 hb5
      go_wp2_with (first
        | (refine wpList_store_rec rfl _ _ _ rfl (wo.heap.size + 1) (stC Y.1 P5 C5 D5) _ rfl rfl 24 stT A5 rfl rfl one5 ?_; rw [← HW6.out])
        | (refine wpList_load_rec_g (by kernel_rfl) _ _ rfl wo.heap.size rfl _ 24 stT q6 rfl ?_)
        | (refine wpList_load_rec_g (by kernel_rfl) _ _ rfl (wo.heap.size + 1) rfl _ 24 stT p6 rfl ?_)
        | fail)
      refine HC.out.mono ?_; rintro e w7 ⟨rfl, hb7⟩
      have G7 := btr G6 hb7
      go_wp2_with fail
      go_roundw
      case rel => exact ⟨2 + 1, by omega, by go_num, G7⟩
      case measure => simp [intOf]
    · obtain ⟨Y, hY⟩ : ∃ Y, rectS x cu cv u v = Y := ⟨_, rfl⟩
      have hYf : stFew Y.1 := by rw [← hY]; exact rectS_few HFEW.out _ _ _ _
      have HY := Lib.hid hY
      have HYF := Lib.hid hYf
      clear hY hYf
      obtain ⟨w2, hw2⟩ : ∃ w2, w2 = (wo.alloc (.cells (stC zeroS (.slice none 0 0) (.slice none 0 0) (.slice none 0 0)).toArray 34)).alloc (.cells (stC zeroS (.slice none 0 0) (.slice none 0 0) (.slice none 0 0)).toArray 34) := ⟨_, rfl⟩
      have z1 : BC w2 wo.heap.size (stC zeroS (.slice none 0 0) (.slice none 0 0) (.slice none 0 0)) := by rw [hw2]; exact (BC.new (stC zeroS (.slice none 0 0) (.slice none 0 0) (.slice none 0 0)) 34 rfl).below (bal (Below.refl _ _) _)
      have z2 : BC w2 (wo.heap.size + 1) (stC zeroS (.slice none 0 0) (.slice none 0 0) (.slice none 0 0)) := by rw [hw2]; exact BC.new (w := wo.alloc (.cells (stC zeroS (.slice none 0 0) (.slice none 0 0) (.slice none 0 0)).toArray 34)) _ 34 (by simp)
      have b2 : Below wo.heap.size wo w2 := by rw [hw2]; exact bal (bal (Below.refl _ _) _) _
      have G2 := btr hbo b2
      have A2 := HA.out.below G2
      have l1 := z1.lt
      have l2 := z2.lt
      have HZ1 := Lib.hid z1
      have HZ2 := Lib.hid z2
      rw [zero_lit] at hw2
      go_upto_region 9 with (fail)
      rw [← hw2]
      clear hw2 z1 z2
      go_wp2_with (first
        | (refine wpList_load_rec rfl _ _ rfl w.heap.size rfl _ 24 stT A2 rfl ?_)
        | fail)
      refine (stRect_any x P C D cu cv u v Y w2 (HS.out.below (btr hB0 G2)) HY.out).mono ?_; rintro e w3 ⟨P3, C3, D3, rfl, ho3, hb3⟩
      have A3 := HZ1.out.below hb3
      have one3 := ho3.at.one
      have p4 := A3.putAll (stC Y.1 P3 C3 D3) rfl
      have q4 := (HZ2.out.below hb3).apart (show wo.heap.size + 1 ≠ wo.heap.size by omega) 0 (stC Y.1 P3 C3 D3)
      have ho4 := ho3.setCells l1 0 (stC Y.1 P3 C3 D3)
      have G4 : Below w0.heap.size w0 (w3.setCells wo.heap.size 0 (stC Y.1 P3 C3 D3)) := below_setCells hbo.size _ _ _ (btr G2 hb3)
      obtain ⟨w4, hw4⟩ : ∃ w4, w4 = w3.setCells wo.heap.size 0 (stC Y.1 P3 C3 D3) := ⟨_, rfl⟩
      have hs4 : w3.heap.size = w4.heap.size := by rw [hw4, setCells_size]
      have l4 : wo.heap.size + 1 < w4.heap.size := by rw [← hs4]; have := hb3.size; omega
      rw [← hw4] at p4 q4 ho4 G4
      have HW4 := Lib.hid hw4
      have HO4 := Lib.hid ho4
      have A4 := HA.out.below G4
      have HP4 := Lib.hid p4
      have HQ4 := Lib.hid q4
      clear hw4 hs4 ho4 ho3 hb3 p4 q4 b2 G2
      go_wp2_with (first
        | (refine wpList_store_rec rfl _ _ _ rfl wo.heap.size (stC Y.1 P3 C3 D3) _ rfl rfl 24 stT A3 rfl rfl one3 ?_; rw [← HW4.out])
        | (refine wpList_load_rec rfl _ _ rfl w.heap.size rfl _ 24 stT A4 rfl ?_)
        | fail)
      refine (rRectS_any x P C D cu cv u v Y w4 (HS.out.below (btr hB0 G4)) HFEW.out HY.out).mono ?_; rintro e w5 ⟨P5, C5, D5, rfl, ho5, hb5⟩
      have G5 := btr G4 hb5
      have hx5 := HS.out.below (btr hB0 G5)
      have one5 := ho5.one hx5
      have A5 := HQ4.out.below hb5
      have p6 := A5.putAll (stC Y.1 P5 C5 D5) rfl
      have q6 := (HP4.out.below hb5).apart (show wo.heap.size ≠ wo.heap.size + 1 by omega) 0 (stC Y.1 P5 C5 D5)
      have G6 : Below w0.heap.size w0 (w5.setCells (wo.heap.size + 1) 0 (stC Y.1 P5 C5 D5)) := below_setCells (Nat.le_trans hbo.size (Nat.le_succ _)) _ _ _ G5
      have ho6 := (ho5.setCells l4 0 (stC Y.1 P5 C5 D5)).at (HS.out.below (btr hB0 G6))
      have k6 : StAt (w5.setCells (wo.heap.size + 1) 0 (stC Y.1 P5 C5 D5)) Y.1 P3 C3 D3 := ((HO4.out.below hb5).setCells l2 0 (stC Y.1 P5 C5 D5)).at
      obtain ⟨w6, hw6⟩ : ∃ w6, w6 = w5.setCells (wo.heap.size + 1) 0 (stC Y.1 P5 C5 D5) := ⟨_, rfl⟩
      rw [← hw6] at p6 q6 ho6 k6 G6
      have HW6 := Lib.hid hw6
      have HC := Lib.hid (helpState_any Y.1 P3 C3 D3 P5 C5 D5 w6 k6 ho6 HYF.out)
      have hne : (Y.2 == Y.2) = true := by simp
      clear hw6 ho6 k6 hx5 ho5 hb5
      go_wp2_with (first
        | (refine wpList_store_rec rfl _ _ _ rfl (wo.heap.size + 1) (stC Y.1 P5 C5 D5) _ rfl rfl 24 stT A5 rfl rfl one5 ?_; rw [← HW6.out])
        | (refine wpList_load_rec_g (by kernel_rfl) _ _ rfl wo.heap.size rfl _ 24 stT q6 rfl ?_)
        | (refine wpList_load_rec_g (by kernel_rfl) _ _ rfl (wo.heap.size + 1) rfl _ 24 stT p6 rfl ?_)
        | fail)
      refine HC.out.mono ?_; rintro e w7 ⟨rfl, hb7⟩
      have G7 := btr G6 hb7
      go_wp2_with fail
      go_roundw
      case rel => exact ⟨3 + 1, by omega, by go_num, G7⟩
      case measure => simp [intOf]
    · obtain ⟨Y, hY⟩ : ∃ Y, shutS x = Y := ⟨_, rfl⟩
      have hYf : stFew Y.1 := by rw [← hY]; exact shutS_few HFEW.out
      have HY := Lib.hid hY
      have HYF := Lib.hid hYf
      clear hY hYf
      obtain ⟨w2, hw2⟩ : ∃ w2, w2 = (wo.alloc (.cells (stC zeroS (.slice none 0 0) (.slice none 0 0) (.slice none 0 0)).toArray 34)).alloc (.cells (stC zeroS (.slice none 0 0) (.slice none 0 0) (.slice none 0 0)).toArray 34) := ⟨_, rfl⟩
      have z1 : BC w2 wo.heap.size (stC zeroS (.slice none 0 0) (.slice none 0 0) (.slice none 0 0)) := by rw [hw2]; exact (BC.new (stC zeroS (.slice none 0 0) (.slice none 0 0) (.slice none 0 0)) 34 rfl).below (bal (Below.refl _ _) _)
      have z2 : BC w2 (wo.heap.size + 1) (stC zeroS (.slice none 0 0) (.slice none 0 0) (.slice none 0 0)) := by rw [hw2]; exact BC.new (w := wo.alloc (.cells (stC zeroS (.slice none 0 0) (.slice none 0 0) (.slice none 0 0)).toArray 34)) _ 34 (by simp)
      have b2 : Below wo.heap.size wo w2 := by rw [hw2]; exact bal (bal (Below.refl _ _) _) _
      have G2 := btr hbo b2
      have A2 := HA.out.below G2
      have l1 := z1.lt
      have l2 := z2.lt
      have HZ1 := Lib.hid z1
      have HZ2 := Lib.hid z2
      rw [zero_lit] at hw2
      go_upto_region 9 with (fail)
      rw [← hw2]
      clear hw2 z1 z2
      go_wp2_with (first
        | (refine wpList_load_rec rfl _ _ rfl w.heap.size rfl _ 24 stT A2 rfl ?_)
        | fail)
      refine (stShut_any x P C D Y w2 (HS.out.below (btr hB0 G2)) HY.out).mono ?_; rintro e w3 ⟨P3, C3, D3, rfl, ho3, hb3⟩
      have A3 := HZ1.out.below hb3
      have one3 := ho3.at.one
      have p4 := A3.putAll (stC Y.1 P3 C3 D3) rfl
      have q4 := (HZ2.out.below hb3).apart (show wo.heap.size + 1 ≠ wo.heap.size by omega) 0 (stC Y.1 P3 C3 D3)
      have ho4 := ho3.setCells l1 0 (stC Y.1 P3 C3 D3)
      have G4 : Below w0.heap.size w0 (w3.setCells wo.heap.size 0 (stC Y.1 P3 C3 D3)) := below_setCells hbo.size _ _ _ (btr G2 hb3)
      obtain ⟨w4, hw4⟩ : ∃ w4, w4 = w3.setCells wo.heap.size 0 (stC Y.1 P3 C3 D3) := ⟨_, rfl⟩
      have hs4 : w3.heap.size = w4.heap.size := by rw [hw4, setCells_size]
      have l4 : wo.heap.size + 1 < w4.heap.size := by rw [← hs4]; have := hb3.size; omega
      rw [← hw4] at p4 q4 ho4 G4
      have HW4 := Lib.hid hw4
      have HO4 := Lib.hid ho4
      have A4 := HA.out.below G4
      have HP4 := Lib.hid p4
      have HQ4 := Lib.hid q4
      clear hw4 hs4 ho4 ho3 hb3 p4 q4 b2 G2
      go_wp2_with (first
        | (refine wpList_store_rec rfl _ _ _ rfl wo.heap.size (stC Y.1 P3 C3 D3) _ rfl rfl 24 stT A3 rfl rfl one3 ?_; rw [← HW4.out])
        | (refine wpList_load_rec rfl _ _ rfl w.heap.size rfl _ 24 stT A4 rfl ?_)
        | fail)
      refine (rShutS_any x P C D Y w4 (HS.out.below (btr hB0 G4)) HFEW.out HY.out).mono ?_; rintro e w5 ⟨P5, C5, D5, rfl, ho5, hb5⟩
      have G5 := btr G4 hb5
      have hx5 := HS.out.below (btr hB0 G5)
      have one5 := ho5.one hx5
      have A5 := HQ4.out.below hb5
      have p6 := A5.putAll (stC Y.1 P5 C5 D5) rfl
      have q6 := (HP4.out.below hb5).apart (show wo.heap.size ≠ wo.heap.size + 1 by omega) 0 (stC Y.1 P5 C5 D5)
      have G6 : Below w0.heap.size w0 (w5.setCells (wo.heap.size + 1) 0 (stC Y.1 P5 C5 D5)) := below_setCells (Nat.le_trans hbo.size (Nat.le_succ _)) _ _ _ G5
      have ho6 := (ho5.setCells l4 0 (stC Y.1 P5 C5 D5)).at (HS.out.below (btr hB0 G6))
      have k6 : StAt (w5.setCells (wo.heap.size + 1) 0 (stC Y.1 P5 C5 D5)) Y.1 P3 C3 D3 := ((HO4.out.below hb5).setCells l2 0 (stC Y.1 P5 C5 D5)).at
      obtain ⟨w6, hw6⟩ : ∃ w6, w6 = w5.setCells (wo.heap.size + 1) 0 (stC Y.1 P5 C5 D5) := ⟨_, rfl⟩
      rw [← hw6] at p6 q6 ho6 k6 G6
      have HW6 := Lib.hid hw6
      have HC := Lib.hid (helpState_any Y.1 P3 C3 D3 P5 C5 D5 w6 k6 ho6 HYF.out)
      have hne : (Y.2 == Y.2) = true := by simp
      clear hw6 ho6 k6 hx5 ho5 hb5
      go_wp2_with (first
        | (refine wpList_store_rec rfl _ _ _ rfl (wo.heap.size + 1) (stC Y.1 P5 C5 D5) _ rfl rfl 24 stT A5 rfl rfl one5 ?_; rw [← HW6.out])
        | (refine wpList_load_rec_g (by kernel_rfl) _ _ rfl wo.heap.size rfl _ 24 stT q6 rfl ?_)
        | (refine wpList_load_rec_g (by kernel_rfl) _ _ rfl (wo.heap.size + 1) rfl _ 24 stT p6 rfl ?_)
        | fail)
      refine HC.out.mono ?_; rintro e w7 ⟨rfl, hb7⟩
      have G7 := btr G6 hb7
      go_wp2_with fail
      go_roundw
      case rel => exact ⟨4 + 1, by omega, by go_num, G7⟩
      case measure => simp [intOf]
    · go_wp2_with fail
      go_ret
      exact ⟨rfl, btr hB0 hbo⟩
end Go.Proofs.Ytaadajadeemndaa
