/- The reference's Picture of a state. -/
import Derived.Test.YtdfkbbcoolgfiaaGreatPicP
import Derived.Test.YtdfkbbcoolgfiaaGreatOrd2
import Derived.Test.YtdfkbbcoolgfiaaGreatMSm
import Derived.Test.YtdfkbbcoolgfiaaGreatImgR
import Derived.Test.YtdfkbbcoolgfiaaGreatMatW
namespace Go.Proofs.YtdfkbbcoolgfiaaGreat
open Go.RowKit Go.BigFrame

theorem picB_lit (x : St) (i : Im) (M : Mt) (C : Value) : (itC (picB x i M) (.slice none 0 0) C).toArray = #[.int .i64 3, .slice none 0 0, .int .i64 0, .int .i64 0, .int .i64 0, .int .i64 0, .int .i64 i.w, .int .i64 i.h, .int .i64 i.b, .string i.d,
  .int .i64 M.a, .int .i64 M.b, .int .i64 M.c, .int .i64 M.d, .int .i64 M.e, .int .i64 M.f, .int .u8 0, .int .u8 0, .int .u8 0, .int .u8 0, C] := rfl
theorem put_newMR {W : World} (M : Mt) : ∃ W', W' = (W.alloc (.cells #[.int .i64 0, .int .i64 0, .int .i64 0, .int .i64 0, .int .i64 0, .int .i64 0] 23)).setCells W.heap.size 0 (mtC M) ∧ BC W' W.heap.size (mtC M) ∧
    Below W.heap.size W W' ∧ BC (W.alloc (.cells #[.int .i64 0, .int .i64 0, .int .i64 0, .int .i64 0, .int .i64 0, .int .i64 0] 23)) W.heap.size (mtC zeroM) := by
  have h := BC.new (w := W) (g := W.heap.size) (mtC zeroM) 23 rfl
  exact ⟨_, rfl, h.putAll (mtC M) rfl, below_setCells (Nat.le_refl _) _ _ _ (bal (Below.refl _ _) _), h⟩
theorem put_newQ {W : World} {vs : List Value} (hl : vs.length = 21) : ∃ W', W' = (W.alloc (.cells (itC zeroI (.slice none 0 0) (.slice none 0 0)).toArray 40)).setCells W.heap.size 0 vs ∧ BC W' W.heap.size vs ∧
    Below W.heap.size W W' ∧ BC (W.alloc (.cells (itC zeroI (.slice none 0 0) (.slice none 0 0)).toArray 40)) W.heap.size (itC zeroI (.slice none 0 0) (.slice none 0 0)) := by
  have h := BC.new (w := W) (g := W.heap.size) (itC zeroI (.slice none 0 0) (.slice none 0 0)) 40 rfl
  exact ⟨_, rfl, h.putAll vs (by rw [hl]; rfl), below_setCells (Nat.le_refl _) _ _ _ (bal (Below.refl _ _) _), h⟩
set_option maxRecDepth 100000 in
set_option maxHeartbeats 4000000 in
theorem rPicture_any (x : St) (P C D : Value) (i : Im) (m : Mt) (mask : Bool) (Y : It × Int) (w : World) (h : StAt w x P C D) (hf : stFew x) (hY : picS x i m mask = Y) : Calls Tryz.prog 12 #[.agg (stC x P C D).toArray, imv i, mtv m, .bool mask] w
    fun r w' => ∃ P' C', r = .returned (.tuple #[.agg (itC Y.1 P' C').toArray, .int .i64 Y.2]) ∧ ItRef x Y.1 P' C' P C ∧ Below w.heap.size w w' := by
  obtain ⟨Ac, cc, rfl, hcl, hcc, hcm⟩ := h.c.sl
  obtain ⟨nc, hnc⟩ : ∃ n, n = x.cl.length := ⟨_, rfl⟩
  rw [← hnc] at h ⊢
  obtain ⟨w0, hw0⟩ : ∃ w0 : World, w0 = (((w.alloc (.cells (stC x P (.slice Ac nc cc) D).toArray 32)).alloc (.cells (imC i).toArray 34)).alloc (.cells (mtC m).toArray 23)).alloc (.cells (itC zeroI (.slice none 0 0) (.slice none 0 0)).toArray 40) := ⟨_, rfl⟩
  have Q : Below w.heap.size w w0 := by rw [hw0]; exact bal (bal (bal (bal (Below.refl _ _) _) _) _) _
  have hS : BC w0 w.heap.size (stC x P (.slice Ac nc cc) D) := by rw [hw0]; exact (BC.new (stC x P (.slice Ac nc cc) D) 32 rfl).below (bal (bal (bal (Below.refl _ _) _) _) _)
  have hP : BC w0 (w.heap.size + 1) (imC i) := by rw [hw0]; exact (BC.new (w := w.alloc _) (imC i) 34 (by simp)).below (bal (bal (Below.refl _ _) _) _)
  have hM : BC w0 (w.heap.size + 1 + 1) (mtC m) := by rw [hw0]; exact (BC.new (w := (w.alloc _).alloc _) (mtC m) 23 (by simp)).below (bal (Below.refl _ _) _)
  have hI : BC w0 (w.heap.size + 1 + 1 + 1) (itC zeroI (.slice none 0 0) (.slice none 0 0)) := by rw [hw0]; exact BC.new (w := ((w.alloc _).alloc _).alloc _) _ 40 (by simp)
  obtain ⟨gI, hgI⟩ : ∃ g, g = w.heap.size + 1 + 1 + 1 := ⟨_, rfl⟩
  obtain ⟨gM, hgM⟩ : ∃ g, g = w.heap.size + 1 + 1 := ⟨_, rfl⟩
  obtain ⟨gP, hgP⟩ : ∃ g, g = w.heap.size + 1 := ⟨_, rfl⟩
  obtain ⟨gS, hgS⟩ : ∃ g, g = w.heap.size := ⟨_, rfl⟩
  have HGI : Hid (w.heap.size ≤ gI) := Lib.hid (by omega)
  have HGM : Hid (w.heap.size ≤ gM) := Lib.hid (by omega)
  have HNM : Hid (gS ≠ gM ∧ gP ≠ gM ∧ gI ≠ gM) := Lib.hid (by omega)
  have HSI : Hid (gS ≠ gI ∧ gP ≠ gI ∧ gM ≠ gI) := Lib.hid (by omega)
  have E1 := Lib.hid hgI
  have E2 := Lib.hid hgM
  have E3 := Lib.hid hgP
  have E4 := Lib.hid hgS
  rw [← hgI] at hI
  rw [← hgM] at hM
  rw [← hgP] at hP
  rw [← hgS] at hS
  rw [zeroI_lit] at hw0
  obtain ⟨⟨M1, e1⟩, hM1⟩ : ∃ R, mulB m x.m = R := ⟨_, rfl⟩
  have HY := Lib.hid (show Y = if (mayS x && imB i && mtB m && !(mask && !(i.b == 1))) = false then (zeroI, 1) else if e1 ≠ 0 then (zeroI, e1) else if detM M1 = 0 then (zeroI, 14) else (picI x i M1 mask, 0) by rw [← hY]; unfold picS; rw [hM1])
  have HMB := Lib.hid (show e1 = 0 → mtB M1 = true from fun h0 => by have := mulB_may (m := m) (n := x.m) (by rw [hM1]; exact h0); rwa [hM1] at this)
  have HMay := Lib.hid fun W (hq : Below w.heap.size w W) => rStMay_any x P (.slice Ac nc cc) D W (h.below hq) hf
  have HIm := Lib.hid fun W => rImMay_any i W
  have HMt := Lib.hid fun W => rMay_any m W
  have HMU := Lib.hid fun W => rMul_any m x.m (M1, e1) W hM1
  have HNC := Lib.hid hnc
  have hvi : imv i = .agg (imC i).toArray := rfl
  rw [hvi] at HIm ⊢
  simp only [mtv_is] at HMt HMU ⊢
  clear hY hM1 h hf hcl hnc hgI hgM hgP hgS hvi
  go_enter Tryz.func12, Tryz.ntmps12
  go_upto_region 1 with (fail)
  rw [← hw0, ← E1.out, ← E2.out, ← E3.out, ← E4.out]
  clear hw0 E1 E2 E3 E4
  go_wp2_with (first
    | (refine wpList_load_rec rfl _ _ rfl gS rfl _ 24 stateT hS rfl ?_)
    | fail)
  refine (HMay.out _ Q).mono ?_; rintro e w1 ⟨rfl, b1⟩
  replace Q := btr Q b1
  replace hS := hS.below b1
  replace hP := hP.below b1
  replace hM := hM.below b1
  replace hI := hI.below b1
  clear b1 HMay
  cases hm : mayS x
  · have HE := Lib.hid (show Y = (zeroI, 1) by rw [HY.out, hm]; rfl)
    clear hm HY
    have hFz := hI.putAll (itC zeroI (.slice none 0 0) (.slice none 0 0)) rfl
    have hFB := below_setCells HGI.out (itC zeroI (.slice none 0 0) (.slice none 0 0)) 0 _ Q
    go_wp2_with (first
      | (refine wpList_store_rec rfl _ _ _ rfl gI (itC zeroI (.slice none 0 0) (.slice none 0 0)) _ rfl rfl 21 itT hI rfl rfl zeroI_one ?_)
      | fail)
    refine bodyPost_ret (result_rec rfl rfl rfl itT hFz rfl) rfl ?_
    rw [HE.out]
    exact ⟨_, _, rfl, ItRef.zero, hFB⟩
  go_wp2_with (first
    | (refine wpList_load_rec_g2 (by kernel_rfl) _ _ rfl gP rfl _ 4 imT hP rfl ?_)
    | fail)
  refine (HIm.out _).mono ?_; rintro e w2 ⟨rfl, b1⟩
  replace Q := btr Q b1
  replace hS := hS.below b1
  replace hP := hP.below b1
  replace hM := hM.below b1
  replace hI := hI.below b1
  clear b1 HIm
  cases hi : imB i
  · have HE := Lib.hid (show Y = (zeroI, 1) by rw [HY.out, hi]; simp)
    clear hm hi HY
    have hFz := hI.putAll (itC zeroI (.slice none 0 0) (.slice none 0 0)) rfl
    have hFB := below_setCells HGI.out (itC zeroI (.slice none 0 0) (.slice none 0 0)) 0 _ Q
    go_wp2_with (first
      | (refine wpList_store_rec rfl _ _ _ rfl gI (itC zeroI (.slice none 0 0) (.slice none 0 0)) _ rfl rfl 21 itT hI rfl rfl zeroI_one ?_)
      | fail)
    refine bodyPost_ret (result_rec rfl rfl rfl itT hFz rfl) rfl ?_
    rw [HE.out]
    exact ⟨_, _, rfl, ItRef.zero, hFB⟩
  go_wp2_with (first
    | (refine wpList_load_rec_g2 (by kernel_rfl) _ _ rfl gM rfl _ 6 matT2 hM rfl ?_)
    | fail)
  refine (HMt.out _).mono ?_; rintro e w3 ⟨rfl, b1⟩
  replace Q := btr Q b1
  replace hS := hS.below b1
  replace hP := hP.below b1
  replace hM := hM.below b1
  replace hI := hI.below b1
  clear b1 HMt
  cases hmt : mtB m
  · have HE := Lib.hid (show Y = (zeroI, 1) by rw [HY.out, hmt]; simp)
    clear hm hi hmt HY
    have hFz := hI.putAll (itC zeroI (.slice none 0 0) (.slice none 0 0)) rfl
    have hFB := below_setCells HGI.out (itC zeroI (.slice none 0 0) (.slice none 0 0)) 0 _ Q
    go_wp2_with (first
      | (refine wpList_store_rec rfl _ _ _ rfl gI (itC zeroI (.slice none 0 0) (.slice none 0 0)) _ rfl rfl 21 itT hI rfl rfl zeroI_one ?_)
      | fail)
    refine bodyPost_ret (result_rec rfl rfl rfl itT hFz rfl) rfl ?_
    rw [HE.out]
    exact ⟨_, _, rfl, ItRef.zero, hFB⟩
  have c2 := hP.c 2 _ rfl
  have HY2 := Lib.hid (show Y = if (mask && !(i.b == 1)) = true then (zeroI, 1) else if e1 ≠ 0 then (zeroI, e1) else if detM M1 = 0 then (zeroI, 14) else (picI x i M1 mask, 0) by rw [HY.out, hm, hi, hmt]; cases (mask && !(i.b == 1)) <;> simp)
  clear hm hi hmt HY
  have hmb : mask = false ∨ (mask = true ∧ i.b = 1) ∨ (mask = true ∧ i.b ≠ 1) := by cases mask <;> simp <;> omega
  rcases hmb with rfl | ⟨rfl, hb1⟩ | ⟨rfl, hb1⟩
  · have HY3 := Lib.hid (show Y = if e1 ≠ 0 then (zeroI, e1) else if detM M1 = 0 then (zeroI, 14) else (picB x i M1, 0) by rw [HY2.out]; rfl)
    clear HY2
    go_wp2_with (first
      | (refine wpList_load_rec rfl _ _ rfl gM rfl _ 6 matT2 hM rfl ?_)
      | (refine wpList_load_stm rfl _ _ rfl gS rfl x _ _ _ matT2 hS ?_)
      | fail)
    refine (HMU.out _).mono ?_; rintro e w4 ⟨rfl, b1⟩
    replace Q := btr Q b1
    replace hS := hS.below b1
    replace hP := hP.below b1
    replace hM := hM.below b1
    replace hI := hI.below b1
    clear b1 HMU c2
    obtain ⟨w5, hw5, N5, b5, Z5⟩ := put_newMR (W := w4) M1
    have HW5 := Lib.hid hw5
    have hgw4 := Q.size
    clear hw5
    replace Q := btr Q b5
    replace hS := hS.below b5
    replace hP := hP.below b5
    replace hM := hM.below b5
    replace hI := hI.below b5
    clear b5
    by_cases he1 : e1 = 0
    case neg =>
      have HE := Lib.hid (show Y = (zeroI, e1) by rw [HY3.out, if_pos he1])
      have he1' : (e1 != 0) = true := by simp [he1]
      clear he1 HY3
      go_upto_region 4 with (first
        | (refine wpList_store_rec rfl _ _ _ rfl w4.heap.size (mtC M1) _ rfl rfl 6 matT2 Z5 rfl rfl (mtC_oneR _) ?_; rw [← HW5.out])
        | fail)
      have hFz := hI.putAll (itC zeroI (.slice none 0 0) (.slice none 0 0)) rfl
      have hFB := below_setCells HGI.out (itC zeroI (.slice none 0 0) (.slice none 0 0)) 0 _ Q
      go_wp2_with (first
        | (refine wpList_store_rec rfl _ _ _ rfl gI (itC zeroI (.slice none 0 0) (.slice none 0 0)) _ rfl rfl 21 itT hI rfl rfl zeroI_one ?_)
        | fail)
      refine bodyPost_ret (result_rec rfl rfl rfl itT hFz rfl) rfl ?_
      rw [HE.out]
      exact ⟨_, _, rfl, ItRef.zero, hFB⟩
    have HDet := Lib.hid fun W => rDetW_any M1 W (HMB.out he1)
    have he1' : (e1 != 0) = false := by simp [he1]
    have HY4 := Lib.hid (show Y = if detM M1 = 0 then (zeroI, 14) else (picB x i M1, 0) by rw [HY3.out, if_neg (by simpa using he1)])
    clear he1 HY3 HMB
    simp only [mtv_is] at HDet
    go_upto_region 4 with (first
      | (refine wpList_store_rec rfl _ _ _ rfl w4.heap.size (mtC M1) _ rfl rfl 6 matT2 Z5 rfl rfl (mtC_oneR _) ?_; rw [← HW5.out])
      | fail)
    clear Z5 HW5
    obtain ⟨dt, hdt⟩ : ∃ d, detM M1 = d := ⟨_, rfl⟩
    rw [hdt] at HY4 HDet
    clear hdt
    go_wp2_with (first
      | (refine wpList_load_rec rfl _ _ rfl w4.heap.size rfl _ 6 matT2 N5 rfl ?_)
      | fail)
    refine (HDet.out _).mono ?_; rintro e w6 ⟨rfl, b6⟩
    replace Q := btr Q b6
    replace hS := hS.below b6
    replace hP := hP.below b6
    replace hM := hM.below b6
    replace hI := hI.below b6
    replace N5 := N5.below b6
    clear b6 HDet
    by_cases hd : dt = 0
    case pos =>
      have HE := Lib.hid (show Y = (zeroI, 14) by rw [HY4.out, if_pos hd])
      have hd' : (dt == 0) = true := by simp [hd]
      clear hd HY4
      have hFz := hI.putAll (itC zeroI (.slice none 0 0) (.slice none 0 0)) rfl
      have hFB := below_setCells HGI.out (itC zeroI (.slice none 0 0) (.slice none 0 0)) 0 _ Q
      go_wp2_with (first
        | (refine wpList_store_rec rfl _ _ _ rfl gI (itC zeroI (.slice none 0 0) (.slice none 0 0)) _ rfl rfl 21 itT hI rfl rfl zeroI_one ?_)
        | fail)
      refine bodyPost_ret (result_rec rfl rfl rfl itT hFz rfl) rfl ?_
      rw [HE.out]
      exact ⟨_, _, rfl, ItRef.zero, hFB⟩
    have HYE := Lib.hid (show Y = (picB x i M1, 0) by rw [HY4.out, if_neg hd])
    have hd' : (dt == 0) = false := by simp [hd]
    have c7 := hS.c 7 _ rfl
    clear hd HY4
    obtain ⟨wz, hwz, hIz, bz, Zz⟩ := put_newQ (W := w6) (vs := itC (picB x i M1) (.slice none 0 0) (.slice Ac nc cc)) rfl
    have HGZ : Hid (w.heap.size ≤ w6.heap.size ∧ gI ≠ w6.heap.size ∧ gS ≠ w6.heap.size) := Lib.hid ⟨Q.size, Nat.ne_of_lt hI.lt, Nat.ne_of_lt hS.lt⟩
    have hP7 : BC w6 gP [.int .i64 i.w, .int .i64 i.h, .int .i64 i.b, .string i.d] := hP
    have N7 : BC w6 w4.heap.size [.int .i64 M1.a, .int .i64 M1.b, .int .i64 M1.c, .int .i64 M1.d, .int .i64 M1.e, .int .i64 M1.f] := N5
    replace Q := btr Q bz
    replace hS := hS.below bz
    replace hP := hP.below bz
    replace hM := hM.below bz
    replace hI := hI.below bz
    have HWZ := Lib.hid hwz
    rw [zeroI_lit] at Zz HWZ
    clear hwz
    clear bz N5
    go_upto_region 9 with (first
      | (refine wpList_load_rec rfl _ _ rfl gP rfl _ 4 imT hP7 rfl ?_)
      | (refine wpList_load_rec rfl _ _ rfl w4.heap.size rfl _ 6 matT2 N7 rfl ?_)
      | (refine wpList_store_rec rfl _ _ _ rfl w6.heap.size (itC (picB x i M1) (.slice none 0 0) (.slice Ac nc cc)) _ rfl rfl 21 itT Zz rfl rfl (itC_one rfl rfl) ?_; rw [← HWZ.out])
      | fail)
    clear HWZ c7 hP7 N7 Zz
    have hFz := (hI).putAll (itC (picB x i M1) (.slice none 0 0) (.slice Ac nc cc)) rfl
    have hFB := below_setCells HGI.out (itC (picB x i M1) (.slice none 0 0) (.slice Ac nc cc)) 0 _ (Q)
    go_wp2_with (first
      | (refine wpList_load_rec rfl _ _ rfl w6.heap.size rfl _ 21 itT (hIz) rfl ?_)
      | (refine wpList_store_rec rfl _ _ _ rfl gI (itC (picB x i M1) (.slice none 0 0) (.slice Ac nc cc)) _ rfl rfl 21 itT (hI) rfl rfl (itC_one rfl rfl) ?_)
      | fail)
    refine bodyPost_ret (result_rec rfl rfl rfl itT hFz rfl) rfl ?_
    rw [HYE.out]
    exact ⟨_, _, rfl, ⟨.inr ⟨rfl, rfl⟩, .inl ⟨rfl, rfl⟩⟩, hFB⟩
  · have HY3 := Lib.hid (show Y = if e1 ≠ 0 then (zeroI, e1) else if detM M1 = 0 then (zeroI, 14) else (picK x i M1, 0) by rw [HY2.out, hb1]; rfl)
    rw [hb1] at c2
    clear HY2 hb1
    go_wp2_with (first
      | (refine wpList_load_rec rfl _ _ rfl gM rfl _ 6 matT2 hM rfl ?_)
      | (refine wpList_load_stm rfl _ _ rfl gS rfl x _ _ _ matT2 hS ?_)
      | fail)
    refine (HMU.out _).mono ?_; rintro e w4 ⟨rfl, b1⟩
    replace Q := btr Q b1
    replace hS := hS.below b1
    replace hP := hP.below b1
    replace hM := hM.below b1
    replace hI := hI.below b1
    clear b1 HMU c2
    obtain ⟨w5, hw5, N5, b5, Z5⟩ := put_newMR (W := w4) M1
    have HW5 := Lib.hid hw5
    have hgw4 := Q.size
    clear hw5
    replace Q := btr Q b5
    replace hS := hS.below b5
    replace hP := hP.below b5
    replace hM := hM.below b5
    replace hI := hI.below b5
    clear b5
    by_cases he1 : e1 = 0
    case neg =>
      have HE := Lib.hid (show Y = (zeroI, e1) by rw [HY3.out, if_pos he1])
      have he1' : (e1 != 0) = true := by simp [he1]
      clear he1 HY3
      go_upto_region 4 with (first
        | (refine wpList_store_rec rfl _ _ _ rfl w4.heap.size (mtC M1) _ rfl rfl 6 matT2 Z5 rfl rfl (mtC_oneR _) ?_; rw [← HW5.out])
        | fail)
      have hFz := hI.putAll (itC zeroI (.slice none 0 0) (.slice none 0 0)) rfl
      have hFB := below_setCells HGI.out (itC zeroI (.slice none 0 0) (.slice none 0 0)) 0 _ Q
      go_wp2_with (first
        | (refine wpList_store_rec rfl _ _ _ rfl gI (itC zeroI (.slice none 0 0) (.slice none 0 0)) _ rfl rfl 21 itT hI rfl rfl zeroI_one ?_)
        | fail)
      refine bodyPost_ret (result_rec rfl rfl rfl itT hFz rfl) rfl ?_
      rw [HE.out]
      exact ⟨_, _, rfl, ItRef.zero, hFB⟩
    have HDet := Lib.hid fun W => rDetW_any M1 W (HMB.out he1)
    have he1' : (e1 != 0) = false := by simp [he1]
    have HY4 := Lib.hid (show Y = if detM M1 = 0 then (zeroI, 14) else (picK x i M1, 0) by rw [HY3.out, if_neg (by simpa using he1)])
    clear he1 HY3 HMB
    simp only [mtv_is] at HDet
    go_upto_region 4 with (first
      | (refine wpList_store_rec rfl _ _ _ rfl w4.heap.size (mtC M1) _ rfl rfl 6 matT2 Z5 rfl rfl (mtC_oneR _) ?_; rw [← HW5.out])
      | fail)
    clear Z5 HW5
    obtain ⟨dt, hdt⟩ : ∃ d, detM M1 = d := ⟨_, rfl⟩
    rw [hdt] at HY4 HDet
    clear hdt
    go_wp2_with (first
      | (refine wpList_load_rec rfl _ _ rfl w4.heap.size rfl _ 6 matT2 N5 rfl ?_)
      | fail)
    refine (HDet.out _).mono ?_; rintro e w6 ⟨rfl, b6⟩
    replace Q := btr Q b6
    replace hS := hS.below b6
    replace hP := hP.below b6
    replace hM := hM.below b6
    replace hI := hI.below b6
    replace N5 := N5.below b6
    clear b6 HDet
    by_cases hd : dt = 0
    case pos =>
      have HE := Lib.hid (show Y = (zeroI, 14) by rw [HY4.out, if_pos hd])
      have hd' : (dt == 0) = true := by simp [hd]
      clear hd HY4
      have hFz := hI.putAll (itC zeroI (.slice none 0 0) (.slice none 0 0)) rfl
      have hFB := below_setCells HGI.out (itC zeroI (.slice none 0 0) (.slice none 0 0)) 0 _ Q
      go_wp2_with (first
        | (refine wpList_store_rec rfl _ _ _ rfl gI (itC zeroI (.slice none 0 0) (.slice none 0 0)) _ rfl rfl 21 itT hI rfl rfl zeroI_one ?_)
        | fail)
      refine bodyPost_ret (result_rec rfl rfl rfl itT hFz rfl) rfl ?_
      rw [HE.out]
      exact ⟨_, _, rfl, ItRef.zero, hFB⟩
    have HYE := Lib.hid (show Y = (picK x i M1, 0) by rw [HY4.out, if_neg hd])
    have hd' : (dt == 0) = false := by simp [hd]
    have c7 := hS.c 7 _ rfl
    clear hd HY4
    obtain ⟨wz, hwz, hIz, bz, Zz⟩ := put_newQ (W := w6) (vs := itC (picB x i M1) (.slice none 0 0) (.slice Ac nc cc)) rfl
    have HGZ : Hid (w.heap.size ≤ w6.heap.size ∧ gI ≠ w6.heap.size ∧ gS ≠ w6.heap.size) := Lib.hid ⟨Q.size, Nat.ne_of_lt hI.lt, Nat.ne_of_lt hS.lt⟩
    have hP7 : BC w6 gP [.int .i64 i.w, .int .i64 i.h, .int .i64 i.b, .string i.d] := hP
    have N7 : BC w6 w4.heap.size [.int .i64 M1.a, .int .i64 M1.b, .int .i64 M1.c, .int .i64 M1.d, .int .i64 M1.e, .int .i64 M1.f] := N5
    replace Q := btr Q bz
    replace hS := hS.below bz
    replace hP := hP.below bz
    replace hM := hM.below bz
    replace hI := hI.below bz
    have HWZ := Lib.hid hwz
    rw [zeroI_lit] at Zz HWZ
    clear hwz
    clear bz N5
    go_upto_region 9 with (first
      | (refine wpList_load_rec rfl _ _ rfl gP rfl _ 4 imT hP7 rfl ?_)
      | (refine wpList_load_rec rfl _ _ rfl w4.heap.size rfl _ 6 matT2 N7 rfl ?_)
      | (refine wpList_store_rec rfl _ _ _ rfl w6.heap.size (itC (picB x i M1) (.slice none 0 0) (.slice Ac nc cc)) _ rfl rfl 21 itT Zz rfl rfl (itC_one rfl rfl) ?_; rw [← HWZ.out])
      | fail)
    clear HWZ c7 hP7 N7 Zz
    go_upto_region 10 with (fail)
    refine wp_region_ord (fun W => BC W gS (stC x P (.slice Ac nc cc) D)) [] 6 (by kernel_rfl) (by kernel_rfl) (hS.below (bdrew (Below.refl _ _))) ?_
    intro hG
    have hId := hIz.below (bdrew (Below.refl wz.heap.size wz))
    have hJd := hI.below (bdrew (Below.refl wz.heap.size wz))
    have hQd := btr Q (bdrew (Below.refl wz.heap.size wz))
    obtain ⟨wd, hwd⟩ : ∃ W, W = wz.drew := ⟨_, rfl⟩
    rw [← hwd] at hId hJd hQd hG ⊢
    clear hwd
    refine ord_take (v := ?_) 0 rfl rfl (by kernel_rfl) (by kernel_rfl) (fun _ _ _ h => h) (Or.inl ⟨by rfl, ?_⟩) hG ?_
    rotate_left
    · intro W hW
      go_simp
      (try with_reducible rfl)
    simp only [Act.put, List.setIfInBounds_toArray, List.set_cons_zero, List.set_cons_succ]
    refine ord_take 1 rfl rfl (by kernel_rfl) (by kernel_rfl) (fun _ _ _ h => h) (yieldsIf_ink (by rfl) _ _ rfl gS rfl x _ _ _ inkT (fun W hW => hW)) hG ?_
    simp only [Act.put, List.setIfInBounds_toArray, List.set_cons_zero, List.set_cons_succ]
    refine ord_take (v := ?_) 2 rfl rfl (by kernel_rfl) (by kernel_rfl) (fun _ _ _ h => h) (Or.inl ⟨by rfl, ?_⟩) hG ?_
    rotate_left
    · intro W hW
      go_simp
      (try with_reducible rfl)
    simp only [Act.put, List.setIfInBounds_toArray, List.set_cons_zero, List.set_cons_succ]
    have q0 := hId.c 0 _ rfl
    have f0 := hId.nf 0
    refine ord_one 3 rfl (by kernel_rfl) rfl ?_
    intro K hK
    go_simp
    have hG1 : BC (wd.setCell ⟨w6.heap.size, 0, none⟩ (.int .i64 4)) gS (stC x P (.slice Ac nc cc) D) := hG.apart HGZ.out.2.2 0 [.int .i64 4]
    refine hK.out _ _ hG1 ?_
    clear hK K q0 f0 hG
    try simp only
    have hG := hG1
    refine ord_take (v := ?_) 4 rfl rfl (by kernel_rfl) (by kernel_rfl) (fun _ _ _ h => h) (Or.inl ⟨by rfl, ?_⟩) hG ?_
    rotate_left
    · intro W hW
      go_simp
      (try with_reducible rfl)
    simp only [Act.put, List.setIfInBounds_toArray, List.set_cons_zero, List.set_cons_succ]
    have hI1 := hId.set 0 (.int .i64 4) (by show 0 < 21; omega)
    have hth := hI1.there_at 16 4 (by show 16 + 4 ≤ 21; omega)
    have hI2 := hI1.setInk rfl x
    rw [picK_set] at hI2
    refine ord_one 5 rfl (by kernel_rfl) rfl ?_
    intro K hK
    rw [if_pos (by rfl)]
    refine wp_store_mid 27 _ _ rfl w6.heap.size 16 (inkC x).toArray rfl rfl hth (by kernel_rfl) (all_oneCell_toArray (inkC_one x)) ?_
    refine hK.out _ _ (hG.apart HGZ.out.2.2 16 _) ?_
    clear hK K hG hG1
    try simp only
    have hJ2 := (hJd.apart HGZ.out.2.1 0 [.int .i64 4]).apart HGZ.out.2.1 16 (inkC x)
    have hB2 := below_setCells HGZ.out.1 (inkC x) 16 _ (below_setCells HGZ.out.1 [.int .i64 4] 0 _ hQd)
    refine ⟨by kernel_rfl, ?_⟩
    refine NoPanic.normal ?_
    have hFz := (hJ2).putAll (itC (picK x i M1) (.slice none 0 0) (.slice Ac nc cc)) rfl
    have hFB := below_setCells HGI.out (itC (picK x i M1) (.slice none 0 0) (.slice Ac nc cc)) 0 _ (hB2)
    go_wp2_with (first
      | (refine wpList_load_rec rfl _ _ rfl w6.heap.size rfl _ 21 itT (hI2) rfl ?_)
      | (refine wpList_store_rec rfl _ _ _ rfl gI (itC (picK x i M1) (.slice none 0 0) (.slice Ac nc cc)) _ rfl rfl 21 itT (hJ2) rfl rfl (itC_one rfl rfl) ?_)
      | fail)
    refine bodyPost_ret (result_rec rfl rfl rfl itT hFz rfl) rfl ?_
    rw [HYE.out]
    exact ⟨_, _, rfl, ⟨.inr ⟨rfl, rfl⟩, .inl ⟨rfl, rfl⟩⟩, hFB⟩
  · have hb' : (i.b == 1) = false := by simpa using hb1
    have HE := Lib.hid (show Y = (zeroI, 1) by rw [HY2.out, hb']; rfl)
    have hb'' : (i.b != 1) = true := by simpa using hb1
    clear hb1 HY2
    have hFz := hI.putAll (itC zeroI (.slice none 0 0) (.slice none 0 0)) rfl
    have hFB := below_setCells HGI.out (itC zeroI (.slice none 0 0) (.slice none 0 0)) 0 _ Q
    go_wp2_with (first
      | (refine wpList_store_rec rfl _ _ _ rfl gI (itC zeroI (.slice none 0 0) (.slice none 0 0)) _ rfl rfl 21 itT hI rfl rfl zeroI_one ?_)
      | fail)
    refine bodyPost_ret (result_rec rfl rfl rfl itT hFz rfl) rfl ?_
    rw [HE.out]
    exact ⟨_, _, rfl, ItRef.zero, hFB⟩
end Go.Proofs.YtdfkbbcoolgfiaaGreat
