/- state.Picture. -/
import Derived.Test.YtdfkbbcoolgfiaaGreatPicP
import Derived.Test.YtdfkbbcoolgfiaaGreatOrd2
namespace Go.Proofs.YtdfkbbcoolgfiaaGreat
open Go.RowKit Go.BigFrame

set_option maxRecDepth 100000 in
set_option maxHeartbeats 4000000 in
theorem stPicture_any (x : St) (P C D : Value) (i : Im) (m : Mt) (mask : Bool) (Y : It × Int) (w : World) (h : StAt w x P C D) (hY : picS x i m mask = Y) : Calls Tryz.prog 11 #[.agg (stC x P C D).toArray, imv i, mtv m, .bool mask] w
    fun r w' => ∃ P' C', r = .returned (.tuple #[.agg (itC Y.1 P' C').toArray, .int .i64 Y.2]) ∧ ItOwn w' w.heap.size Y.1 P' C' ∧ Below w.heap.size w w' := by
  obtain ⟨Ac, cc, rfl, hcl, hcc, hcm⟩ := h.c.sl
  obtain ⟨nc, hnc⟩ : ∃ n, n = x.cl.length := ⟨_, rfl⟩
  rw [← hnc] at h ⊢
  obtain ⟨w0, hw0⟩ : ∃ w0 : World, w0 = (((w.alloc (.cells (stC x P (.slice Ac nc cc) D).toArray 32)).alloc (.cells (imC i).toArray 34)).alloc (.cells (mtC m).toArray 23)).alloc (.cells (itC zeroI (.slice none 0 0) (.slice none 0 0)).toArray 40) := ⟨_, rfl⟩
  have Q : Below w.heap.size w w0 := by rw [hw0]; exact bal (bal (bal (bal (Below.refl _ _) _) _) _) _
  have hS : BC w0 w.heap.size (stC x P (.slice Ac nc cc) D) := by rw [hw0]; exact (BC.new (stC x P (.slice Ac nc cc) D) 32 rfl).below (bal (bal (bal (Below.refl _ _) _) _) _)
  have hP : BC w0 (w.heap.size + 1) (imC i) := by rw [hw0]; exact (BC.new (w := w.alloc _) (imC i) 34 (by simp)).below (bal (bal (Below.refl _ _) _) _)
  have hM : BC w0 (w.heap.size + 1 + 1) (mtC m) := by rw [hw0]; exact (BC.new (w := (w.alloc _).alloc _) (mtC m) 23 (by simp)).below (bal (Below.refl _ _) _)
  have hI : BC w0 (w.heap.size + 1 + 1 + 1) (itC zeroI (.slice none 0 0) (.slice none 0 0)) := by rw [hw0]; exact BC.new (w := ((w.alloc _).alloc _).alloc _) _ 40 (by simp)
  obtain ⟨gI, hgI⟩ : ∃ g, g = w.heap.size + 1 + 1 + 1 := ⟨_, rfl⟩
  obtain ⟨gM, hgM⟩ : ∃ g, g = w.heap.size + 1 + 1 := ⟨_, rfl⟩
  obtain ⟨gP, hgP⟩ : ∃ g, g = w.heap.size + 1 := ⟨_, rfl⟩
  obtain ⟨gS, hgS⟩ : ∃ g, g = w.heap.size := ⟨_, rfl⟩
  have HGI : Hid (w.heap.size ≤ gI) := Lib.hid (by omega)
  have HGM : Hid (w.heap.size ≤ gM) := Lib.hid (by omega)
  have HNM : Hid (gS ≠ gM ∧ gP ≠ gM ∧ gI ≠ gM) := Lib.hid (by omega)
  have HSI : Hid (gS ≠ gI ∧ gP ≠ gI ∧ gM ≠ gI) := Lib.hid (by omega)
  have E1 := Lib.hid hgI
  have E2 := Lib.hid hgM
  have E3 := Lib.hid hgP
  have E4 := Lib.hid hgS
  rw [← hgI] at hI
  rw [← hgM] at hM
  rw [← hgP] at hP
  rw [← hgS] at hS
  rw [zeroI_lit] at hw0
  obtain ⟨⟨M1, e1⟩, hM1⟩ : ∃ R, mulB m x.m = R := ⟨_, rfl⟩
  have HY := Lib.hid (show Y = if (mayS x && imB i && mtB m && !(mask && !(i.b == 1))) = false then (zeroI, 1) else if e1 ≠ 0 then (zeroI, e1) else if detM M1 = 0 then (zeroI, 14) else (picI x i M1 mask, 0) by rw [← hY]; unfold picS; rw [hM1])
  have HMB := Lib.hid (show e1 = 0 → mtB M1 = true from fun h0 => by have := mulB_may (m := m) (n := x.m) (by rw [hM1]; exact h0); rwa [hM1] at this)
  have HMay := Lib.hid fun W (hq : Below w.heap.size w W) => stMay_any x P (.slice Ac nc cc) D W (h.below hq)
  have HIm := Lib.hid fun W => imMay_any i W
  have HMt := Lib.hid fun W => matMay_any m W
  have HMU := Lib.hid fun W => matMul_all m x.m (M1, e1) W hM1
  have HNC := Lib.hid hnc
  have HCL := Lib.hid hcl
  have hvi : imv i = .agg (imC i).toArray := rfl
  rw [hvi] at HIm ⊢
  simp only [mtv_is] at HMt HMU ⊢
  clear hY hM1 h hcl hnc hgI hgM hgP hgS hvi
  go_enter Tryz.func11, Tryz.ntmps11
  go_upto_region 1 with (fail)
  rw [← hw0, ← E1.out, ← E2.out, ← E3.out, ← E4.out]
  clear hw0 E1 E2 E3 E4
  go_wp2_with (first
    | (refine wpList_load_rec rfl _ _ rfl gS rfl _ 24 stateT hS rfl ?_)
    | fail)
  refine (HMay.out _ Q).mono ?_; rintro e w1 ⟨rfl, b1⟩
  replace Q := btr Q b1
  replace hS := hS.below b1
  replace hP := hP.below b1
  replace hM := hM.below b1
  replace hI := hI.below b1
  clear b1 HMay
  cases hm : mayS x
  · have HE := Lib.hid (show Y = (zeroI, 1) by rw [HY.out, hm]; rfl)
    clear hm HY
    have hFz := hI.putAll (itC zeroI (.slice none 0 0) (.slice none 0 0)) rfl
    have hFB := below_setCells HGI.out (itC zeroI (.slice none 0 0) (.slice none 0 0)) 0 _ Q
    go_wp2_with (first
      | (refine wpList_load_rec rfl _ _ rfl gI rfl _ 21 itT hI rfl ?_)
      | (refine wpList_store_rec rfl _ _ _ rfl gI (itC zeroI (.slice none 0 0) (.slice none 0 0)) _ rfl rfl 21 itT hI rfl rfl zeroI_one ?_)
      | fail)
    refine bodyPost_ret (result_rec rfl rfl rfl itT hFz rfl) rfl ?_
    rw [HE.out]
    exact ⟨_, _, rfl, zeroI_own _ _, hFB⟩
  have HFEW := Lib.hid (mayS_few hm)
  go_wp2_with (first
    | (refine wpList_load_rec_g2 (by kernel_rfl) _ _ rfl gP rfl _ 4 imT hP rfl ?_)
    | fail)
  refine (HIm.out _).mono ?_; rintro e w2 ⟨rfl, b1⟩
  replace Q := btr Q b1
  replace hS := hS.below b1
  replace hP := hP.below b1
  replace hM := hM.below b1
  replace hI := hI.below b1
  clear b1 HIm
  cases hi : imB i
  · have HE := Lib.hid (show Y = (zeroI, 1) by rw [HY.out, hi]; simp)
    clear hm hi HY
    have hFz := hI.putAll (itC zeroI (.slice none 0 0) (.slice none 0 0)) rfl
    have hFB := below_setCells HGI.out (itC zeroI (.slice none 0 0) (.slice none 0 0)) 0 _ Q
    go_wp2_with (first
      | (refine wpList_load_rec rfl _ _ rfl gI rfl _ 21 itT hI rfl ?_)
      | (refine wpList_store_rec rfl _ _ _ rfl gI (itC zeroI (.slice none 0 0) (.slice none 0 0)) _ rfl rfl 21 itT hI rfl rfl zeroI_one ?_)
      | fail)
    refine bodyPost_ret (result_rec rfl rfl rfl itT hFz rfl) rfl ?_
    rw [HE.out]
    exact ⟨_, _, rfl, zeroI_own _ _, hFB⟩
  go_wp2_with (first
    | (refine wpList_load_rec_g2 (by kernel_rfl) _ _ rfl gM rfl _ 6 matT2 hM rfl ?_)
    | fail)
  refine (HMt.out _).mono ?_; rintro e w3 ⟨rfl, b1⟩
  replace Q := btr Q b1
  replace hS := hS.below b1
  replace hP := hP.below b1
  replace hM := hM.below b1
  replace hI := hI.below b1
  clear b1 HMt
  cases hmt : mtB m
  · have HE := Lib.hid (show Y = (zeroI, 1) by rw [HY.out, hmt]; simp)
    clear hm hi hmt HY
    have hFz := hI.putAll (itC zeroI (.slice none 0 0) (.slice none 0 0)) rfl
    have hFB := below_setCells HGI.out (itC zeroI (.slice none 0 0) (.slice none 0 0)) 0 _ Q
    go_wp2_with (first
      | (refine wpList_load_rec rfl _ _ rfl gI rfl _ 21 itT hI rfl ?_)
      | (refine wpList_store_rec rfl _ _ _ rfl gI (itC zeroI (.slice none 0 0) (.slice none 0 0)) _ rfl rfl 21 itT hI rfl rfl zeroI_one ?_)
      | fail)
    refine bodyPost_ret (result_rec rfl rfl rfl itT hFz rfl) rfl ?_
    rw [HE.out]
    exact ⟨_, _, rfl, zeroI_own _ _, hFB⟩
  have c2 := hP.c 2 _ rfl
  have HY2 := Lib.hid (show Y = if (mask && !(i.b == 1)) = true then (zeroI, 1) else if e1 ≠ 0 then (zeroI, e1) else if detM M1 = 0 then (zeroI, 14) else (picI x i M1 mask, 0) by rw [HY.out, hm, hi, hmt]; cases (mask && !(i.b == 1)) <;> simp)
  clear hm hi hmt HY
  have hmb : mask = false ∨ (mask = true ∧ i.b = 1) ∨ (mask = true ∧ i.b ≠ 1) := by cases mask <;> simp <;> omega
  rcases hmb with rfl | ⟨rfl, hb1⟩ | ⟨rfl, hb1⟩
  · have HY3 := Lib.hid (show Y = if e1 ≠ 0 then (zeroI, e1) else if detM M1 = 0 then (zeroI, 14) else (picB x i M1, 0) by rw [HY2.out]; rfl)
    clear HY2
    go_wp2_with (first
      | (refine wpList_load_rec rfl _ _ rfl gM rfl _ 6 matT2 hM rfl ?_)
      | (refine wpList_load_stm rfl _ _ rfl gS rfl x _ _ _ matT2 hS ?_)
      | fail)
    refine (HMU.out _).mono ?_; rintro e w4 ⟨rfl, b1⟩
    replace Q := btr Q b1
    replace hS := hS.below b1
    replace hP := hP.below b1
    replace hM := hM.below b1
    replace hI := hI.below b1
    clear b1 HMU c2
    obtain ⟨w5, hw5⟩ : ∃ W, W = w4.setCells gM 0 (mtC M1) := ⟨_, rfl⟩
    have HW5 := Lib.hid hw5
    have Q4 := Q
    have hM4 := hM
    replace Q : Below w.heap.size w w5 := by rw [hw5]; exact below_setCells HGM.out _ _ _ Q4
    replace hS : BC w5 gS (stC x P (.slice Ac nc cc) D) := by rw [hw5]; exact hS.apart HNM.out.1 0 _
    replace hP : BC w5 gP (imC i) := by rw [hw5]; exact hP.apart HNM.out.2.1 0 _
    replace hI : BC w5 gI (itC zeroI (.slice none 0 0) (.slice none 0 0)) := by rw [hw5]; exact hI.apart HNM.out.2.2 0 _
    replace hM : BC w5 gM (mtC M1) := by rw [hw5]; exact hM4.putAll _ rfl
    clear hw5 Q4
    by_cases he1 : e1 = 0
    case neg =>
      have HE := Lib.hid (show Y = (zeroI, e1) by rw [HY3.out, if_pos he1])
      have he1' : (e1 != 0) = true := by simp [he1]
      clear he1 HY3
      go_upto_region 4 with (first
        | (refine wpList_store_rec rfl _ _ _ rfl gM (mtC M1) _ rfl rfl 6 matT2 hM4 rfl rfl (mtC_oneR _) ?_; rw [← HW5.out])
        | fail)
      have hFz := hI.putAll (itC zeroI (.slice none 0 0) (.slice none 0 0)) rfl
      have hFB := below_setCells HGI.out (itC zeroI (.slice none 0 0) (.slice none 0 0)) 0 _ Q
      go_wp2_with (first
        | (refine wpList_load_rec rfl _ _ rfl gI rfl _ 21 itT hI rfl ?_)
        | (refine wpList_store_rec rfl _ _ _ rfl gI (itC zeroI (.slice none 0 0) (.slice none 0 0)) _ rfl rfl 21 itT hI rfl rfl zeroI_one ?_)
        | fail)
      refine bodyPost_ret (result_rec rfl rfl rfl itT hFz rfl) rfl ?_
      rw [HE.out]
      exact ⟨_, _, rfl, zeroI_own _ _, hFB⟩
    obtain ⟨w1_, w2_, w3_⟩ := detM_in (HMB.out he1)
    have he1' : (e1 != 0) = false := by simp [he1]
    have HY4 := Lib.hid (show Y = if detM M1 = 0 then (zeroI, 14) else (picB x i M1, 0) by rw [HY3.out, if_neg (by simpa using he1)])
    clear he1 HY3 HMB
    have m0 := (hM).c 0 _ rfl
    have m1 := (hM).c 1 _ rfl
    have m2 := (hM).c 2 _ rfl
    have m3 := (hM).c 3 _ rfl
    obtain ⟨dt, hdt⟩ : ∃ d, detM M1 = d := ⟨_, rfl⟩
    rw [hdt] at HY4 w3_
    clear hdt
    by_cases hd : dt = 0
    case pos =>
      have HE := Lib.hid (show Y = (zeroI, 14) by rw [HY4.out, if_pos hd])
      have hd' : (dt == 0) = true := by simp [hd]
      clear hd HY4
      go_upto_region 4 with (first
        | (refine wpList_store_rec rfl _ _ _ rfl gM (mtC M1) _ rfl rfl 6 matT2 hM4 rfl rfl (mtC_oneR _) ?_; rw [← HW5.out])
        | fail)
      have hFz := hI.putAll (itC zeroI (.slice none 0 0) (.slice none 0 0)) rfl
      have hFB := below_setCells HGI.out (itC zeroI (.slice none 0 0) (.slice none 0 0)) 0 _ Q
      go_wp2_with (first
        | (refine wpList_load_rec rfl _ _ rfl gI rfl _ 21 itT hI rfl ?_)
        | (refine wpList_store_rec rfl _ _ _ rfl gI (itC zeroI (.slice none 0 0) (.slice none 0 0)) _ rfl rfl 21 itT hI rfl rfl zeroI_one ?_)
        | fail)
      refine bodyPost_ret (result_rec rfl rfl rfl itT hFz rfl) rfl ?_
      rw [HE.out]
      exact ⟨_, _, rfl, zeroI_own _ _, hFB⟩
    have HYE := Lib.hid (show Y = (picB x i M1, 0) by rw [HY4.out, if_neg hd])
    have hd' : (dt == 0) = false := by simp [hd]
    obtain ⟨f1, f2, f3, f4⟩ := HFEW.out
    rw [← HNC.out] at f2
    have HF3 := Lib.hid f3
    clear f1 f3 f4 HFEW hd HY4
    go_upto_region 4 with (first
      | (refine wpList_store_rec rfl _ _ _ rfl gM (mtC M1) _ rfl rfl 6 matT2 hM4 rfl rfl (mtC_oneR _) ?_; rw [← HW5.out])
      | fail)
    clear hM4 HW5
    go_upto_region 8 with (fail)
    clear m0 m1 m2 m3 w1_ w2_ w3_ hd'
    refine wp_region_ord (fun W => BC W gS (stC x P (.slice Ac nc cc) D) ∧ BC W gP (imC i) ∧ BC W gM (mtC M1)) [] 7 (by kernel_rfl) (by kernel_rfl) ⟨hS.below (bdrew (Below.refl _ _)), hP.below (bdrew (Below.refl _ _)), hM.below (bdrew (Below.refl _ _))⟩ ?_
    intro hG
    refine ord_take 0 rfl rfl (by kernel_rfl) (by kernel_rfl) (fun _ _ _ h => h) (yieldsIf_rec (by rfl) _ _ rfl gP rfl (imC i) 4 imT (fun W hW => hW.2.1) rfl) hG ?_
    simp only [Act.put, List.setIfInBounds_toArray, List.set_cons_zero, List.set_cons_succ]
    refine ord_take 1 rfl rfl (by kernel_rfl) (by kernel_rfl) (fun _ _ _ h => h) (yieldsIf_rec (by rfl) _ _ rfl gM rfl (mtC M1) 6 matT2 (fun W hW => hW.2.2) rfl) hG ?_
    simp only [Act.put, List.setIfInBounds_toArray, List.set_cons_zero, List.set_cons_succ]
    refine ord_take (v := ?_) 2 rfl rfl (by kernel_rfl) (by kernel_rfl) (fun _ _ _ h => h) (Or.inl ⟨by rfl, ?_⟩) hG ?_
    rotate_left
    · intro W hW
      have c7 := hW.1.c 7 _ rfl
      go_simp
      (try with_reducible rfl)
    simp only [Act.put, List.setIfInBounds_toArray, List.set_cons_zero, List.set_cons_succ]
    refine ord_take (v := ?_) 3 rfl rfl (by kernel_rfl) (by kernel_rfl) (fun _ _ _ h => h) (Or.inl ⟨by rfl, ?_⟩) hG ?_
    rotate_left
    · intro W hW
      have c7 := hW.1.c 7 _ rfl
      go_simp
      (try with_reducible rfl)
    simp only [Act.put, List.setIfInBounds_toArray, List.set_cons_zero, List.set_cons_succ]
    clear hG
    refine ord_one 4 rfl (by kernel_rfl) rfl ?_
    intro K hK
    go_simp
    refine (clips_any Ac nc cc x.cl _ HNC.out (by omega) HF3.out (HCL.out.below (btr Q (bdrew (Below.refl _ _))))).mono ?_; rintro e wa ⟨Aa, ca, rfl, hoa, ba⟩
    have Ba := btr (bdrew (Below.refl w5.heap.size w5)) ba
    have hG : BC wa gS (stC x P (.slice Ac nc cc) D) ∧ BC wa gP (imC i) ∧ BC wa gM (mtC M1) := ⟨hS.below Ba, hP.below Ba, hM.below Ba⟩
    refine hK.out _ _ hG ?_
    clear hK K
    try simp only
    refine ord_take (v := ?_) 5 rfl rfl (by kernel_rfl) (by kernel_rfl) (fun _ _ _ h => h) (Or.inl ⟨by rfl, ?_⟩) hG ?_
    rotate_left
    · intro W hW
      simp only [show (imC i).toArray = #[.int .i64 i.w, .int .i64 i.h, .int .i64 i.b, .string i.d] from rfl, show (mtC M1).toArray = #[.int .i64 M1.a, .int .i64 M1.b, .int .i64 M1.c, .int .i64 M1.d, .int .i64 M1.e, .int .i64 M1.f] from rfl]
      go_simp
      (try with_reducible rfl)
    simp only [Act.put, List.setIfInBounds_toArray, List.set_cons_zero, List.set_cons_succ]
    have hgl := hI.lt
    have hIa := hI.below Ba
    have hgw := Q.size
    refine ord_one 6 rfl (by kernel_rfl) rfl ?_
    intro K hK
    rw [if_pos (by rfl)]
    refine wp_store_mid 40 _ _ rfl gI 0 (itC (picB x i M1) (.slice none 0 0) (.slice Aa nc ca)).toArray rfl rfl hIa.there (by kernel_rfl) (all_oneCell_toArray (itC_one rfl rfl)) ?_
    refine hK.out _ _ ⟨hG.1.apart HSI.out.1 0 _, hG.2.1.apart HSI.out.2.1 0 _, hG.2.2.apart HSI.out.2.2 0 _⟩ ?_
    clear hK K
    try simp only
    obtain ⟨wz, hwz⟩ : ∃ W, W = wa.setCells gI 0 (itC (picB x i M1) (.slice none 0 0) (.slice Aa nc ca)) := ⟨_, rfl⟩
    have hwz' : wa.setCells gI 0 (itC (picB x i M1) (.slice none 0 0) (.slice Aa nc ca)).toArray.toList = wz := hwz.symm
    rw [hwz']
    have hSz : BC wz gS (stC x P (.slice Ac nc cc) D) := by rw [hwz]; exact hG.1.apart HSI.out.1 0 _
    have hIz : BC wz gI (itC (picB x i M1) (.slice none 0 0) (.slice Aa nc ca)) := by rw [hwz]; exact hIa.putAll _ rfl
    have hQz : Below w.heap.size w wz := by rw [hwz]; exact below_setCells HGI.out _ 0 _ (btr Q Ba)
    have hcz : ClOwn wz w5.heap.size (.slice Aa nc ca) x.cl := by rw [hwz]; exact ClOwn.setCells hgl _ 0 _ (hoa.mono (Nat.le_refl _))
    clear hG hwz hwz' hIa Ba ba hoa
    refine ⟨by kernel_rfl, ?_⟩
    refine NoPanic.normal ?_
    have hFz := (hIz).putAll (itC (picB x i M1) (.slice none 0 0) (.slice Aa nc ca)) rfl
    have hFB := below_setCells HGI.out (itC (picB x i M1) (.slice none 0 0) (.slice Aa nc ca)) 0 _ (hQz)
    have hFO : ItOwn _ w.heap.size (picB x i M1) (.slice none 0 0) (.slice Aa nc ca) := ⟨own_nil, (ClOwn.setCells hgl (itC (picB x i M1) (.slice none 0 0) (.slice Aa nc ca)) 0 _ (hcz)).mono hgw⟩
    go_wp2_with (first
      | (refine wpList_load_rec rfl _ _ rfl gI rfl _ 21 itT (hIz) rfl ?_)
      | (refine wpList_store_rec rfl _ _ _ rfl gI (itC (picB x i M1) (.slice none 0 0) (.slice Aa nc ca)) _ rfl rfl 21 itT (hIz) rfl rfl (itC_one rfl rfl) ?_)
      | fail)
    refine bodyPost_ret (result_rec rfl rfl rfl itT hFz rfl) rfl ?_
    rw [HYE.out]
    exact ⟨_, _, rfl, hFO, hFB⟩
  · have HY3 := Lib.hid (show Y = if e1 ≠ 0 then (zeroI, e1) else if detM M1 = 0 then (zeroI, 14) else (picK x i M1, 0) by rw [HY2.out, hb1]; rfl)
    rw [hb1] at c2
    clear HY2 hb1
    go_wp2_with (first
      | (refine wpList_load_rec rfl _ _ rfl gM rfl _ 6 matT2 hM rfl ?_)
      | (refine wpList_load_stm rfl _ _ rfl gS rfl x _ _ _ matT2 hS ?_)
      | fail)
    refine (HMU.out _).mono ?_; rintro e w4 ⟨rfl, b1⟩
    replace Q := btr Q b1
    replace hS := hS.below b1
    replace hP := hP.below b1
    replace hM := hM.below b1
    replace hI := hI.below b1
    clear b1 HMU c2
    obtain ⟨w5, hw5⟩ : ∃ W, W = w4.setCells gM 0 (mtC M1) := ⟨_, rfl⟩
    have HW5 := Lib.hid hw5
    have Q4 := Q
    have hM4 := hM
    replace Q : Below w.heap.size w w5 := by rw [hw5]; exact below_setCells HGM.out _ _ _ Q4
    replace hS : BC w5 gS (stC x P (.slice Ac nc cc) D) := by rw [hw5]; exact hS.apart HNM.out.1 0 _
    replace hP : BC w5 gP (imC i) := by rw [hw5]; exact hP.apart HNM.out.2.1 0 _
    replace hI : BC w5 gI (itC zeroI (.slice none 0 0) (.slice none 0 0)) := by rw [hw5]; exact hI.apart HNM.out.2.2 0 _
    replace hM : BC w5 gM (mtC M1) := by rw [hw5]; exact hM4.putAll _ rfl
    clear hw5 Q4
    by_cases he1 : e1 = 0
    case neg =>
      have HE := Lib.hid (show Y = (zeroI, e1) by rw [HY3.out, if_pos he1])
      have he1' : (e1 != 0) = true := by simp [he1]
      clear he1 HY3
      go_upto_region 4 with (first
        | (refine wpList_store_rec rfl _ _ _ rfl gM (mtC M1) _ rfl rfl 6 matT2 hM4 rfl rfl (mtC_oneR _) ?_; rw [← HW5.out])
        | fail)
      have hFz := hI.putAll (itC zeroI (.slice none 0 0) (.slice none 0 0)) rfl
      have hFB := below_setCells HGI.out (itC zeroI (.slice none 0 0) (.slice none 0 0)) 0 _ Q
      go_wp2_with (first
        | (refine wpList_load_rec rfl _ _ rfl gI rfl _ 21 itT hI rfl ?_)
        | (refine wpList_store_rec rfl _ _ _ rfl gI (itC zeroI (.slice none 0 0) (.slice none 0 0)) _ rfl rfl 21 itT hI rfl rfl zeroI_one ?_)
        | fail)
      refine bodyPost_ret (result_rec rfl rfl rfl itT hFz rfl) rfl ?_
      rw [HE.out]
      exact ⟨_, _, rfl, zeroI_own _ _, hFB⟩
    obtain ⟨w1_, w2_, w3_⟩ := detM_in (HMB.out he1)
    have he1' : (e1 != 0) = false := by simp [he1]
    have HY4 := Lib.hid (show Y = if detM M1 = 0 then (zeroI, 14) else (picK x i M1, 0) by rw [HY3.out, if_neg (by simpa using he1)])
    clear he1 HY3 HMB
    have m0 := (hM).c 0 _ rfl
    have m1 := (hM).c 1 _ rfl
    have m2 := (hM).c 2 _ rfl
    have m3 := (hM).c 3 _ rfl
    obtain ⟨dt, hdt⟩ : ∃ d, detM M1 = d := ⟨_, rfl⟩
    rw [hdt] at HY4 w3_
    clear hdt
    by_cases hd : dt = 0
    case pos =>
      have HE := Lib.hid (show Y = (zeroI, 14) by rw [HY4.out, if_pos hd])
      have hd' : (dt == 0) = true := by simp [hd]
      clear hd HY4
      go_upto_region 4 with (first
        | (refine wpList_store_rec rfl _ _ _ rfl gM (mtC M1) _ rfl rfl 6 matT2 hM4 rfl rfl (mtC_oneR _) ?_; rw [← HW5.out])
        | fail)
      have hFz := hI.putAll (itC zeroI (.slice none 0 0) (.slice none 0 0)) rfl
      have hFB := below_setCells HGI.out (itC zeroI (.slice none 0 0) (.slice none 0 0)) 0 _ Q
      go_wp2_with (first
        | (refine wpList_load_rec rfl _ _ rfl gI rfl _ 21 itT hI rfl ?_)
        | (refine wpList_store_rec rfl _ _ _ rfl gI (itC zeroI (.slice none 0 0) (.slice none 0 0)) _ rfl rfl 21 itT hI rfl rfl zeroI_one ?_)
        | fail)
      refine bodyPost_ret (result_rec rfl rfl rfl itT hFz rfl) rfl ?_
      rw [HE.out]
      exact ⟨_, _, rfl, zeroI_own _ _, hFB⟩
    have HYE := Lib.hid (show Y = (picK x i M1, 0) by rw [HY4.out, if_neg hd])
    have hd' : (dt == 0) = false := by simp [hd]
    obtain ⟨f1, f2, f3, f4⟩ := HFEW.out
    rw [← HNC.out] at f2
    have HF3 := Lib.hid f3
    clear f1 f3 f4 HFEW hd HY4
    go_upto_region 4 with (first
      | (refine wpList_store_rec rfl _ _ _ rfl gM (mtC M1) _ rfl rfl 6 matT2 hM4 rfl rfl (mtC_oneR _) ?_; rw [← HW5.out])
      | fail)
    clear hM4 HW5
    go_upto_region 8 with (fail)
    clear m0 m1 m2 m3 w1_ w2_ w3_ hd'
    refine wp_region_ord (fun W => BC W gS (stC x P (.slice Ac nc cc) D) ∧ BC W gP (imC i) ∧ BC W gM (mtC M1)) [] 7 (by kernel_rfl) (by kernel_rfl) ⟨hS.below (bdrew (Below.refl _ _)), hP.below (bdrew (Below.refl _ _)), hM.below (bdrew (Below.refl _ _))⟩ ?_
    intro hG
    refine ord_take 0 rfl rfl (by kernel_rfl) (by kernel_rfl) (fun _ _ _ h => h) (yieldsIf_rec (by rfl) _ _ rfl gP rfl (imC i) 4 imT (fun W hW => hW.2.1) rfl) hG ?_
    simp only [Act.put, List.setIfInBounds_toArray, List.set_cons_zero, List.set_cons_succ]
    refine ord_take 1 rfl rfl (by kernel_rfl) (by kernel_rfl) (fun _ _ _ h => h) (yieldsIf_rec (by rfl) _ _ rfl gM rfl (mtC M1) 6 matT2 (fun W hW => hW.2.2) rfl) hG ?_
    simp only [Act.put, List.setIfInBounds_toArray, List.set_cons_zero, List.set_cons_succ]
    refine ord_take (v := ?_) 2 rfl rfl (by kernel_rfl) (by kernel_rfl) (fun _ _ _ h => h) (Or.inl ⟨by rfl, ?_⟩) hG ?_
    rotate_left
    · intro W hW
      have c7 := hW.1.c 7 _ rfl
      go_simp
      (try with_reducible rfl)
    simp only [Act.put, List.setIfInBounds_toArray, List.set_cons_zero, List.set_cons_succ]
    refine ord_take (v := ?_) 3 rfl rfl (by kernel_rfl) (by kernel_rfl) (fun _ _ _ h => h) (Or.inl ⟨by rfl, ?_⟩) hG ?_
    rotate_left
    · intro W hW
      have c7 := hW.1.c 7 _ rfl
      go_simp
      (try with_reducible rfl)
    simp only [Act.put, List.setIfInBounds_toArray, List.set_cons_zero, List.set_cons_succ]
    clear hG
    refine ord_one 4 rfl (by kernel_rfl) rfl ?_
    intro K hK
    go_simp
    refine (clips_any Ac nc cc x.cl _ HNC.out (by omega) HF3.out (HCL.out.below (btr Q (bdrew (Below.refl _ _))))).mono ?_; rintro e wa ⟨Aa, ca, rfl, hoa, ba⟩
    have Ba := btr (bdrew (Below.refl w5.heap.size w5)) ba
    have hG : BC wa gS (stC x P (.slice Ac nc cc) D) ∧ BC wa gP (imC i) ∧ BC wa gM (mtC M1) := ⟨hS.below Ba, hP.below Ba, hM.below Ba⟩
    refine hK.out _ _ hG ?_
    clear hK K
    try simp only
    refine ord_take (v := ?_) 5 rfl rfl (by kernel_rfl) (by kernel_rfl) (fun _ _ _ h => h) (Or.inl ⟨by rfl, ?_⟩) hG ?_
    rotate_left
    · intro W hW
      simp only [show (imC i).toArray = #[.int .i64 i.w, .int .i64 i.h, .int .i64 i.b, .string i.d] from rfl, show (mtC M1).toArray = #[.int .i64 M1.a, .int .i64 M1.b, .int .i64 M1.c, .int .i64 M1.d, .int .i64 M1.e, .int .i64 M1.f] from rfl]
      go_simp
      (try with_reducible rfl)
    simp only [Act.put, List.setIfInBounds_toArray, List.set_cons_zero, List.set_cons_succ]
    have hgl := hI.lt
    have hIa := hI.below Ba
    have hgw := Q.size
    refine ord_one 6 rfl (by kernel_rfl) rfl ?_
    intro K hK
    rw [if_pos (by rfl)]
    refine wp_store_mid 40 _ _ rfl gI 0 (itC (picB x i M1) (.slice none 0 0) (.slice Aa nc ca)).toArray rfl rfl hIa.there (by kernel_rfl) (all_oneCell_toArray (itC_one rfl rfl)) ?_
    refine hK.out _ _ ⟨hG.1.apart HSI.out.1 0 _, hG.2.1.apart HSI.out.2.1 0 _, hG.2.2.apart HSI.out.2.2 0 _⟩ ?_
    clear hK K
    try simp only
    obtain ⟨wz, hwz⟩ : ∃ W, W = wa.setCells gI 0 (itC (picB x i M1) (.slice none 0 0) (.slice Aa nc ca)) := ⟨_, rfl⟩
    have hwz' : wa.setCells gI 0 (itC (picB x i M1) (.slice none 0 0) (.slice Aa nc ca)).toArray.toList = wz := hwz.symm
    rw [hwz']
    have hSz : BC wz gS (stC x P (.slice Ac nc cc) D) := by rw [hwz]; exact hG.1.apart HSI.out.1 0 _
    have hIz : BC wz gI (itC (picB x i M1) (.slice none 0 0) (.slice Aa nc ca)) := by rw [hwz]; exact hIa.putAll _ rfl
    have hQz : Below w.heap.size w wz := by rw [hwz]; exact below_setCells HGI.out _ 0 _ (btr Q Ba)
    have hcz : ClOwn wz w5.heap.size (.slice Aa nc ca) x.cl := by rw [hwz]; exact ClOwn.setCells hgl _ 0 _ (hoa.mono (Nat.le_refl _))
    clear hG hwz hwz' hIa Ba ba hoa
    refine ⟨by kernel_rfl, ?_⟩
    refine NoPanic.normal ?_
    go_upto_region 10 with (fail)
    have hGz : BC wz.drew gS (stC x P (.slice Ac nc cc) D) := hSz.below (bdrew (Below.refl _ _))
    have hId := hIz.below (bdrew (Below.refl wz.heap.size wz))
    have hcd := hcz.below (bdrew (Below.refl wz.heap.size wz))
    have hQd := btr hQz (bdrew (Below.refl wz.heap.size wz))
    refine wp_region_ord (fun W => BC W gS (stC x P (.slice Ac nc cc) D)) [] 6 (by kernel_rfl) (by kernel_rfl) hGz ?_
    intro hG
    refine ord_take (v := ?_) 0 rfl rfl (by kernel_rfl) (by kernel_rfl) (fun _ _ _ h => h) (Or.inl ⟨by rfl, ?_⟩) hG ?_
    rotate_left
    · intro W hW
      go_simp
      (try with_reducible rfl)
    simp only [Act.put, List.setIfInBounds_toArray, List.set_cons_zero, List.set_cons_succ]
    refine ord_take 1 rfl rfl (by kernel_rfl) (by kernel_rfl) (fun _ _ _ h => h) (yieldsIf_ink (by rfl) _ _ rfl gS rfl x _ _ _ inkT (fun W hW => hW)) hG ?_
    simp only [Act.put, List.setIfInBounds_toArray, List.set_cons_zero, List.set_cons_succ]
    refine ord_take (v := ?_) 2 rfl rfl (by kernel_rfl) (by kernel_rfl) (fun _ _ _ h => h) (Or.inl ⟨by rfl, ?_⟩) hG ?_
    rotate_left
    · intro W hW
      go_simp
      (try with_reducible rfl)
    simp only [Act.put, List.setIfInBounds_toArray, List.set_cons_zero, List.set_cons_succ]
    obtain ⟨wd, hwd⟩ : ∃ W, W = wz.drew := ⟨_, rfl⟩
    rw [← hwd] at hId hcd hQd hG ⊢
    clear hwd hGz hSz hIz hcz hQz
    have q0 := hId.c 0 _ rfl
    have f0 := hId.nf 0
    refine ord_one 3 rfl (by kernel_rfl) rfl ?_
    intro K hK
    go_simp
    have hG1 : BC (wd.setCell ⟨gI, 0, none⟩ (.int .i64 4)) gS (stC x P (.slice Ac nc cc) D) := hG.apart HSI.out.1 0 [.int .i64 4]
    refine hK.out _ _ hG1 ?_
    clear hK K q0 f0 hG
    try simp only
    have hG := hG1
    refine ord_take (v := ?_) 4 rfl rfl (by kernel_rfl) (by kernel_rfl) (fun _ _ _ h => h) (Or.inl ⟨by rfl, ?_⟩) hG ?_
    rotate_left
    · intro W hW
      go_simp
      (try with_reducible rfl)
    simp only [Act.put, List.setIfInBounds_toArray, List.set_cons_zero, List.set_cons_succ]
    have hI1 := hId.set 0 (.int .i64 4) (by show 0 < 21; omega)
    have hth := hI1.there_at 16 4 (by show 16 + 4 ≤ 21; omega)
    have hI2 := hI1.setInk rfl x
    rw [picK_set] at hI2
    refine ord_one 5 rfl (by kernel_rfl) rfl ?_
    intro K hK
    rw [if_pos (by rfl)]
    refine wp_store_mid 27 _ _ rfl gI 16 (inkC x).toArray rfl rfl hth (by kernel_rfl) (all_oneCell_toArray (inkC_one x)) ?_
    refine hK.out _ _ (hG.apart HSI.out.1 16 _) ?_
    clear hK K hG hG1
    try simp only
    have hc2 := ClOwn.setCells hgl (inkC x) 16 _ (ClOwn.setCells hgl [.int .i64 4] 0 _ hcd)
    have hB2 := below_setCells HGI.out (inkC x) 16 _ (below_setCells HGI.out [.int .i64 4] 0 _ hQd)
    refine ⟨by kernel_rfl, ?_⟩
    refine NoPanic.normal ?_
    have hFz := (hI2).putAll (itC (picK x i M1) (.slice none 0 0) (.slice Aa nc ca)) rfl
    have hFB := below_setCells HGI.out (itC (picK x i M1) (.slice none 0 0) (.slice Aa nc ca)) 0 _ (hB2)
    have hFO : ItOwn _ w.heap.size (picK x i M1) (.slice none 0 0) (.slice Aa nc ca) := ⟨own_nil, (ClOwn.setCells hgl (itC (picK x i M1) (.slice none 0 0) (.slice Aa nc ca)) 0 _ (hc2)).mono hgw⟩
    go_wp2_with (first
      | (refine wpList_load_rec rfl _ _ rfl gI rfl _ 21 itT (hI2) rfl ?_)
      | (refine wpList_store_rec rfl _ _ _ rfl gI (itC (picK x i M1) (.slice none 0 0) (.slice Aa nc ca)) _ rfl rfl 21 itT (hI2) rfl rfl (itC_one rfl rfl) ?_)
      | fail)
    refine bodyPost_ret (result_rec rfl rfl rfl itT hFz rfl) rfl ?_
    rw [HYE.out]
    exact ⟨_, _, rfl, hFO, hFB⟩
  · have hb' : (i.b == 1) = false := by simpa using hb1
    have HE := Lib.hid (show Y = (zeroI, 1) by rw [HY2.out, hb']; rfl)
    have hb'' : (i.b != 1) = true := by simpa using hb1
    clear hb1 HY2
    have hFz := hI.putAll (itC zeroI (.slice none 0 0) (.slice none 0 0)) rfl
    have hFB := below_setCells HGI.out (itC zeroI (.slice none 0 0) (.slice none 0 0)) 0 _ Q
    go_wp2_with (first
      | (refine wpList_load_rec rfl _ _ rfl gI rfl _ 21 itT hI rfl ?_)
      | (refine wpList_store_rec rfl _ _ _ rfl gI (itC zeroI (.slice none 0 0) (.slice none 0 0)) _ rfl rfl 21 itT hI rfl rfl zeroI_one ?_)
      | fail)
    refine bodyPost_ret (result_rec rfl rfl rfl itT hFz rfl) rfl ?_
    rw [HE.out]
    exact ⟨_, _, rfl, zeroI_own _ _, hFB⟩
end Go.Proofs.YtdfkbbcoolgfiaaGreat
