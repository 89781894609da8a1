/- state.Stroke. -/
import Derived.Test.YtdfkbbcoolgfiaaGreatMStp
import Derived.Test.YtdfkbbcoolgfiaaGreatFlatPath
import Derived.Test.YtdfkbbcoolgfiaaGreatMHp
namespace Go.Proofs.YtdfkbbcoolgfiaaGreat
open Go.RowKit Go.BigFrame

theorem flat_is (A : Option Addr) (n c : Nat) (l L : List Sg) (er : Int) (m : Nat) (w : World) (hm : n ≤ 1000000) (h : Sl w 5 A n (sgs l)) (hE : flatE l = (L, er)) (hL : L.length = m) :
    Calls Tryz.prog 28 #[.slice A n c] w fun e w' => ∃ A' c', e = .returned (.tuple #[.slice A' m c', .int .i64 er]) ∧ w'.ownsRow w.heap.size 63 5 (.slice A' m c') m (sgs L) ∧ Below w.heap.size w w' := by
  subst hL
  rcases Bool.eq_false_or_eq_true (mayB l) with hok | hok
  · have := flat_Path_yes A n c l w hm h hok
    rwa [hE] at this
  · have := flat_Path_no A n c l w hm h hok
    rwa [hE] at this
theorem hemI_one {x : St} {l : List Sg} {wd : Int} {P C : Value} (hp : P.oneCell' = true) (hc : C.oneCell' = true) : ∀ v ∈ itC (hemI x l wd) P C, v.oneCell' = true := itC_one hp hc
theorem mayS_da {x : St} (h : mayS x = true) : x.da.length ≤ 11 ∧ mayB x.p = true := by
  simp only [mayS, Bool.and_eq_true, dashB, decide_eq_true_eq] at h
  exact ⟨h.1.1.2.1.1, h.1.1.1.1.2⟩
set_option maxRecDepth 100000 in
set_option maxHeartbeats 4000000 in
theorem stStroke_any (x : St) (P C D : Value) (Y : It × Int) (w : World) (h : StAt w x P C D) (hY : strokeS x = Y) : Calls Tryz.prog 9 #[.agg (stC x P C D).toArray] w
    fun r w' => ∃ P' C', r = .returned (.tuple #[.agg (itC Y.1 P' C').toArray, .int .i64 Y.2]) ∧ ItOwn w' w.heap.size Y.1 P' C' ∧ Below w.heap.size w w' := by
  obtain ⟨Ac, cc, rfl, hcl, hcc, hcm⟩ := h.c.sl
  obtain ⟨Ap, cp, rfl, hps, hpc, hpm⟩ := h.p
  obtain ⟨Ad, cd, rfl, hds, hdc, hdm⟩ := h.d
  obtain ⟨nc, hnc⟩ : ∃ n, n = x.cl.length := ⟨_, rfl⟩
  obtain ⟨np, hnp⟩ : ∃ n, n = x.p.length := ⟨_, rfl⟩
  obtain ⟨nd, hnd⟩ : ∃ n, n = x.da.length := ⟨_, rfl⟩
  rw [← hnc, ← hnp, ← hnd] at h ⊢
  rw [← hnp] at hps
  have HST := Lib.hid fun W (hq : Below w.heap.size w W) => h.below hq
  obtain ⟨w0, hw0⟩ : ∃ w0 : World, w0 = (w.alloc (.cells (stC x (.slice Ap np cp) (.slice Ac nc cc) (.slice Ad nd cd)).toArray 32)).alloc (.cells (itC zeroI (.slice none 0 0) (.slice none 0 0)).toArray 40) := ⟨_, rfl⟩
  have Q : Below w.heap.size w w0 := by rw [hw0]; exact bal (bal (Below.refl _ _) _) _
  have hS : BC w0 w.heap.size (stC x (.slice Ap np cp) (.slice Ac nc cc) (.slice Ad nd cd)) := by rw [hw0]; exact (BC.new (stC x (.slice Ap np cp) (.slice Ac nc cc) (.slice Ad nd cd)) 32 rfl).below (bal (Below.refl _ _) _)
  have hI : BC w0 (w.heap.size + 1) (itC zeroI (.slice none 0 0) (.slice none 0 0)) := by rw [hw0]; exact BC.new (w := w.alloc _) _ 40 (by simp)
  obtain ⟨gI, hgI⟩ : ∃ g, g = w.heap.size + 1 := ⟨_, rfl⟩
  obtain ⟨gS, hgS⟩ : ∃ g, g = w.heap.size := ⟨_, rfl⟩
  have HGI : Hid (w.heap.size ≤ gI) := Lib.hid (by omega)
  have HSI : Hid (gS ≠ gI) := Lib.hid (by omega)
  have E1 := Lib.hid hgI
  have E3 := Lib.hid hgS
  rw [← hgI] at hI
  rw [← hgS] at hS
  rw [zeroI_lit] at hw0
  obtain ⟨⟨L, fe⟩, hfe⟩ : ∃ R, flatE x.p = R := ⟨_, rfl⟩
  obtain ⟨⟨wd, we⟩, hwe⟩ : ∃ R, wideM x.m x.wide = R := ⟨_, rfl⟩
  obtain ⟨⟨DL, de⟩, hde⟩ : ∃ R, dashedS x.m x.da x.ph L = R := ⟨_, rfl⟩
  have HY := Lib.hid (show Y = if mayS x = false then (zeroI, 1) else if fe ≠ 0 then (zeroI, fe) else if we ≠ 0 then (zeroI, we) else if x.da = [] then (hemI x L wd, 0) else if de ≠ 0 then (zeroI, de) else (hemI x DL wd, 0) by
    rw [← hY]; unfold strokeS; rw [hfe, hwe]; simp only [hde])
  have hL3 : L.length ≤ 300 := by have := flatE_len x.p; rw [hfe] at this; exact this
  have hD3 : DL.length ≤ 300 := by have := dashedS_len (m := x.m) (da := x.da) (ph := x.ph) hL3; rw [hde] at this; exact this
  obtain ⟨nL, hnL⟩ : ∃ n, L.length = n := ⟨_, rfl⟩
  obtain ⟨nD, hnD⟩ : ∃ n, DL.length = n := ⟨_, rfl⟩
  rw [hnL] at hL3
  rw [hnD] at hD3
  have HM := Lib.hid fun W (hq : Below w.heap.size w W) => stMay_any x (.slice Ap np cp) (.slice Ac nc cc) (.slice Ad nd cd) W (h.below hq)
  have HFL := Lib.hid fun (hm : np ≤ 1000) W (hq : Below w.heap.size w W) => flat_is Ap np cp x.p L fe nL W (by omega) (hps.below hq) hfe hnL
  have HWD := Lib.hid fun W => matWide_any x.m x.wide (wd, we) W hwe
  simp only [mtv_is] at HWD
  have HFO := Lib.hid (show mayS x = true → fe = 0 → mayB L = true ∧ ∀ s ∈ L, s.kind ≠ 3 from fun hm h0 => by
    have := flatE_ok (mayS_da hm).2 (by rw [hfe]; exact h0)
    rw [hfe] at this
    exact ⟨this.1, this.2.1⟩)
  have HDA := Lib.hid fun (hm : mayS x = true) (h1 : 1 ≤ nd) (hf : fe = 0) W (hq : Below w.heap.size w W) (A : Option Addr) (c : Nat) (hl : Sl W 5 A nL (sgs L)) => stDashed_any x (.slice Ap np cp) (.slice Ac nc cc) (.slice Ad nd cd) A nL c L DL de nD W (h.below hq) (mayS_da hm).1 (by omega) hl (HFO.out hm hf).1 (HFO.out hm hf).2 hde hnD
  have HND := Lib.hid (show x.da = [] ↔ nd = 0 by rw [hnd]; exact List.length_eq_zero_iff.symm)
  have HNC := Lib.hid hnc
  have HNP := Lib.hid hnp
  have HNL := Lib.hid hnL
  have HND2 := Lib.hid hnD
  have HCL := Lib.hid hcl
  clear hY h hps hds hcl hfe hwe hde hnc hnp hnd hnL hnD hgI hgS HST hdc hpc
  go_enter Tryz.func9, Tryz.ntmps9
  go_upto_region 1 with (fail)
  rw [← hw0, ← E1.out, ← E3.out]
  clear hw0 E1 E3
  go_wp2_with (first
    | (refine wpList_load_rec rfl _ _ rfl gS rfl _ 24 stateT hS rfl ?_)
    | fail)
  refine (HM.out _ Q).mono ?_; rintro e w1 ⟨rfl, b1⟩
  replace Q := btr Q b1
  replace hS := hS.below b1
  replace hI := hI.below b1
  clear b1 HM
  cases hm : mayS x
  · have HE := Lib.hid (show Y = (zeroI, 1) by rw [HY.out, hm]; rfl)
    clear hm HY
    have hFz := hI.putAll (itC zeroI (.slice none 0 0) (.slice none 0 0)) rfl
    have hFB := below_setCells HGI.out (itC zeroI (.slice none 0 0) (.slice none 0 0)) 0 _ Q
    go_wp2_with (first
      | (refine wpList_load_rec rfl _ _ rfl gI rfl _ 21 itT hI rfl ?_)
      | (refine wpList_store_rec rfl _ _ _ rfl gI (itC zeroI (.slice none 0 0) (.slice none 0 0)) _ rfl rfl 21 itT hI rfl rfl zeroI_one ?_)
      | fail)
    refine bodyPost_ret (result_rec rfl rfl rfl itT hFz rfl) rfl ?_
    rw [HE.out]
    exact ⟨_, _, rfl, zeroI_own _ _, hFB⟩
  have HFEW := Lib.hid (mayS_few hm)
  have hnp3 : np ≤ 1000 := by rw [HNP.out]; exact HFEW.out.1
  have HFL2 := Lib.hid (HFL.out hnp3)
  have HDA2 := Lib.hid (HDA.out hm)
  have HY2 := Lib.hid (show Y = if fe ≠ 0 then (zeroI, fe) else if we ≠ 0 then (zeroI, we) else if x.da = [] then (hemI x L wd, 0) else if de ≠ 0 then (zeroI, de) else (hemI x DL wd, 0) by rw [HY.out, hm]; rfl)
  have a6 := hS.c 6 _ rfl
  clear hnp3 HFL HDA hm HY
  go_wp2_with fail
  refine (HFL2.out _ Q).mono ?_; rintro e w2 ⟨A2, c2, rfl, ho2, b1⟩
  replace Q := btr Q b1
  replace hS := hS.below b1
  replace hI := hI.below b1
  have hs2 := own_sl ho2
  clear b1 ho2 a6 HFL2
  by_cases hf0 : fe = 0
  case neg =>
    have HE := Lib.hid (show Y = (zeroI, fe) by rw [HY2.out, if_pos hf0])
    have hf0' : (fe != 0) = true := by simp [hf0]
    clear hf0 HY2
    have hFz := hI.putAll (itC zeroI (.slice none 0 0) (.slice none 0 0)) rfl
    have hFB := below_setCells HGI.out (itC zeroI (.slice none 0 0) (.slice none 0 0)) 0 _ Q
    go_wp2_with (first
      | (refine wpList_load_rec rfl _ _ rfl gI rfl _ 21 itT hI rfl ?_)
      | (refine wpList_store_rec rfl _ _ _ rfl gI (itC zeroI (.slice none 0 0) (.slice none 0 0)) _ rfl rfl 21 itT hI rfl rfl zeroI_one ?_)
      | fail)
    refine bodyPost_ret (result_rec rfl rfl rfl itT hFz rfl) rfl ?_
    rw [HE.out]
    exact ⟨_, _, rfl, zeroI_own _ _, hFB⟩
  have HY3 := Lib.hid (show Y = if we ≠ 0 then (zeroI, we) else if x.da = [] then (hemI x L wd, 0) else if de ≠ 0 then (zeroI, de) else (hemI x DL wd, 0) by rw [HY2.out, if_neg (by simpa using hf0)])
  have hf0' : (fe != 0) = false := by simp [hf0]
  have HF0 := Lib.hid hf0
  have a12 := hS.c 12 _ rfl
  clear hf0 HY2
  go_wp2_with (first
    | (refine wpList_load_stm rfl _ _ rfl gS rfl x _ _ _ matT hS ?_)
    | fail)
  refine (HWD.out _).mono ?_; rintro e w3 ⟨rfl, b1⟩
  replace Q := btr Q b1
  replace hS := hS.below b1
  replace hI := hI.below b1
  replace hs2 := hs2.below b1
  clear b1 HWD a12
  by_cases hw0 : we = 0
  case neg =>
    have HE := Lib.hid (show Y = (zeroI, we) by rw [HY3.out, if_pos hw0])
    have hw0' : (we != 0) = true := by simp [hw0]
    clear hw0 HY3
    have hFz := hI.putAll (itC zeroI (.slice none 0 0) (.slice none 0 0)) rfl
    have hFB := below_setCells HGI.out (itC zeroI (.slice none 0 0) (.slice none 0 0)) 0 _ Q
    go_wp2_with (first
      | (refine wpList_load_rec rfl _ _ rfl gI rfl _ 21 itT hI rfl ?_)
      | (refine wpList_store_rec rfl _ _ _ rfl gI (itC zeroI (.slice none 0 0) (.slice none 0 0)) _ rfl rfl 21 itT hI rfl rfl zeroI_one ?_)
      | fail)
    refine bodyPost_ret (result_rec rfl rfl rfl itT hFz rfl) rfl ?_
    rw [HE.out]
    exact ⟨_, _, rfl, zeroI_own _ _, hFB⟩
  have HY4 := Lib.hid (show Y = if x.da = [] then (hemI x L wd, 0) else if de ≠ 0 then (zeroI, de) else (hemI x DL wd, 0) by rw [HY3.out, if_neg (by simpa using hw0)])
  have hw0' : (we != 0) = false := by simp [hw0]
  have a15 := hS.c 15 _ rfl
  clear hw0 HY3
  by_cases hd0 : nd = 0
  · have HYE := Lib.hid (show Y = (hemI x L wd, 0) by rw [HY4.out, if_pos (HND.out.2 hd0)])
    have HLN := HNL
    have hd0' : decide (0 < nd) = false := by simp; omega
    clear HY4 hd0
    obtain ⟨f1, f2, f3, f4⟩ := HFEW.out
    rw [← HNC.out] at f2
    have HF3 := Lib.hid f3
    clear f1 f3 f4 HFEW
    go_upto_region 13 with (fail)
    refine wp_region_ord (fun W => BC W gS (stC x (.slice Ap np cp) (.slice Ac nc cc) (.slice Ad nd cd))) [] 16 (by kernel_rfl) (by kernel_rfl) (hS.below (bdrew (Below.refl _ _))) ?_
    intro hG
    refine ord_take (v := ?_) 0 rfl rfl (by kernel_rfl) (by kernel_rfl) (fun _ _ _ h => h) (Or.inl ⟨by rfl, ?_⟩) hG ?_
    rotate_left
    · intro W hW
      have c8 := hW.c 8 _ rfl
      have c9 := hW.c 9 _ rfl
      have c10 := hW.c 10 _ rfl
      have c11 := hW.c 11 _ rfl
      have c7 := hW.c 7 _ rfl
      have c13 := hW.c 13 _ rfl
      have c14 := hW.c 14 _ rfl
      go_simp
      (try with_reducible rfl)
    simp only [Act.put, List.setIfInBounds_toArray, List.set_cons_zero, List.set_cons_succ]
    refine ord_take (v := ?_) 2 rfl rfl (by kernel_rfl) (by kernel_rfl) (fun _ _ _ h => h) (Or.inl ⟨by rfl, ?_⟩) hG ?_
    rotate_left
    · intro W hW
      have c8 := hW.c 8 _ rfl
      have c9 := hW.c 9 _ rfl
      have c10 := hW.c 10 _ rfl
      have c11 := hW.c 11 _ rfl
      have c7 := hW.c 7 _ rfl
      have c13 := hW.c 13 _ rfl
      have c14 := hW.c 14 _ rfl
      go_simp
      (try with_reducible rfl)
    simp only [Act.put, List.setIfInBounds_toArray, List.set_cons_zero, List.set_cons_succ]
    refine ord_take (v := ?_) 3 rfl rfl (by kernel_rfl) (by kernel_rfl) (fun _ _ _ h => h) (Or.inl ⟨by rfl, ?_⟩) hG ?_
    rotate_left
    · intro W hW
      have c8 := hW.c 8 _ rfl
      have c9 := hW.c 9 _ rfl
      have c10 := hW.c 10 _ rfl
      have c11 := hW.c 11 _ rfl
      have c7 := hW.c 7 _ rfl
      have c13 := hW.c 13 _ rfl
      have c14 := hW.c 14 _ rfl
      go_simp
      (try with_reducible rfl)
    simp only [Act.put, List.setIfInBounds_toArray, List.set_cons_zero, List.set_cons_succ]
    refine ord_take (v := ?_) 4 rfl rfl (by kernel_rfl) (by kernel_rfl) (fun _ _ _ h => h) (Or.inl ⟨by rfl, ?_⟩) hG ?_
    rotate_left
    · intro W hW
      have c8 := hW.c 8 _ rfl
      have c9 := hW.c 9 _ rfl
      have c10 := hW.c 10 _ rfl
      have c11 := hW.c 11 _ rfl
      have c7 := hW.c 7 _ rfl
      have c13 := hW.c 13 _ rfl
      have c14 := hW.c 14 _ rfl
      go_simp
      (try with_reducible rfl)
    simp only [Act.put, List.setIfInBounds_toArray, List.set_cons_zero, List.set_cons_succ]
    refine ord_take (v := ?_) 5 rfl rfl (by kernel_rfl) (by kernel_rfl) (fun _ _ _ h => h) (Or.inl ⟨by rfl, ?_⟩) hG ?_
    rotate_left
    · intro W hW
      have c8 := hW.c 8 _ rfl
      have c9 := hW.c 9 _ rfl
      have c10 := hW.c 10 _ rfl
      have c11 := hW.c 11 _ rfl
      have c7 := hW.c 7 _ rfl
      have c13 := hW.c 13 _ rfl
      have c14 := hW.c 14 _ rfl
      go_simp
      (try with_reducible rfl)
    simp only [Act.put, List.setIfInBounds_toArray, List.set_cons_zero, List.set_cons_succ]
    refine ord_take (v := ?_) 6 rfl rfl (by kernel_rfl) (by kernel_rfl) (fun _ _ _ h => h) (Or.inl ⟨by rfl, ?_⟩) hG ?_
    rotate_left
    · intro W hW
      have c8 := hW.c 8 _ rfl
      have c9 := hW.c 9 _ rfl
      have c10 := hW.c 10 _ rfl
      have c11 := hW.c 11 _ rfl
      have c7 := hW.c 7 _ rfl
      have c13 := hW.c 13 _ rfl
      have c14 := hW.c 14 _ rfl
      go_simp
      (try with_reducible rfl)
    simp only [Act.put, List.setIfInBounds_toArray, List.set_cons_zero, List.set_cons_succ]
    refine ord_take (v := ?_) 7 rfl rfl (by kernel_rfl) (by kernel_rfl) (fun _ _ _ h => h) (Or.inl ⟨by rfl, ?_⟩) hG ?_
    rotate_left
    · intro W hW
      have c8 := hW.c 8 _ rfl
      have c9 := hW.c 9 _ rfl
      have c10 := hW.c 10 _ rfl
      have c11 := hW.c 11 _ rfl
      have c7 := hW.c 7 _ rfl
      have c13 := hW.c 13 _ rfl
      have c14 := hW.c 14 _ rfl
      go_simp
      (try with_reducible rfl)
    simp only [Act.put, List.setIfInBounds_toArray, List.set_cons_zero, List.set_cons_succ]
    refine ord_take (v := ?_) 8 rfl rfl (by kernel_rfl) (by kernel_rfl) (fun _ _ _ h => h) (Or.inl ⟨by rfl, ?_⟩) hG ?_
    rotate_left
    · intro W hW
      have c8 := hW.c 8 _ rfl
      have c9 := hW.c 9 _ rfl
      have c10 := hW.c 10 _ rfl
      have c11 := hW.c 11 _ rfl
      have c7 := hW.c 7 _ rfl
      have c13 := hW.c 13 _ rfl
      have c14 := hW.c 14 _ rfl
      go_simp
      (try with_reducible rfl)
    simp only [Act.put, List.setIfInBounds_toArray, List.set_cons_zero, List.set_cons_succ]
    refine ord_take (v := ?_) 9 rfl rfl (by kernel_rfl) (by kernel_rfl) (fun _ _ _ h => h) (Or.inl ⟨by rfl, ?_⟩) hG ?_
    rotate_left
    · intro W hW
      have c8 := hW.c 8 _ rfl
      have c9 := hW.c 9 _ rfl
      have c10 := hW.c 10 _ rfl
      have c11 := hW.c 11 _ rfl
      have c7 := hW.c 7 _ rfl
      have c13 := hW.c 13 _ rfl
      have c14 := hW.c 14 _ rfl
      go_simp
      (try with_reducible rfl)
    simp only [Act.put, List.setIfInBounds_toArray, List.set_cons_zero, List.set_cons_succ]
    refine ord_take (v := ?_) 10 rfl rfl (by kernel_rfl) (by kernel_rfl) (fun _ _ _ h => h) (Or.inl ⟨by rfl, ?_⟩) hG ?_
    rotate_left
    · intro W hW
      have c8 := hW.c 8 _ rfl
      have c9 := hW.c 9 _ rfl
      have c10 := hW.c 10 _ rfl
      have c11 := hW.c 11 _ rfl
      have c7 := hW.c 7 _ rfl
      have c13 := hW.c 13 _ rfl
      have c14 := hW.c 14 _ rfl
      go_simp
      (try with_reducible rfl)
    simp only [Act.put, List.setIfInBounds_toArray, List.set_cons_zero, List.set_cons_succ]
    refine ord_take (v := ?_) 11 rfl rfl (by kernel_rfl) (by kernel_rfl) (fun _ _ _ h => h) (Or.inl ⟨by rfl, ?_⟩) hG ?_
    rotate_left
    · intro W hW
      have c8 := hW.c 8 _ rfl
      have c9 := hW.c 9 _ rfl
      have c10 := hW.c 10 _ rfl
      have c11 := hW.c 11 _ rfl
      have c7 := hW.c 7 _ rfl
      have c13 := hW.c 13 _ rfl
      have c14 := hW.c 14 _ rfl
      go_simp
      (try with_reducible rfl)
    simp only [Act.put, List.setIfInBounds_toArray, List.set_cons_zero, List.set_cons_succ]
    clear hG
    refine ord_one 1 rfl (by kernel_rfl) rfl ?_
    intro K hK
    go_simp
    refine (ownSeg_any A2 nL c2 (sgs L) _ (hs2.below (bdrew (Below.refl _ _))) (oneCell_sgs _) (by omega)).mono ?_; rintro e w9 ⟨A9, c9, rfl, ho9, b9⟩
    have B9 := btr (bdrew (Below.refl (World.heap w3).size w3)) b9
    refine hK.out _ _ (hS.below B9) ?_
    clear hK K
    try simp only
    refine ord_one 12 rfl (by kernel_rfl) rfl ?_
    intro K hK
    go_simp
    refine (clips_any Ac nc cc x.cl _ HNC.out (by omega) HF3.out (HCL.out.below (btr Q B9))).mono ?_; rintro e wa ⟨Aa, ca, rfl, hoa, ba⟩
    have Ba := btr B9 ba
    refine hK.out _ _ (hS.below Ba) ?_
    clear hK K
    try simp only
    have hG := hS.below Ba
    refine ord_take (v := ?_) 13 rfl rfl (by kernel_rfl) (by kernel_rfl) (fun _ _ _ h => h) (Or.inl ⟨by rfl, ?_⟩) hG ?_
    rotate_left
    · intro W hW
      have c8 := hW.c 8 _ rfl
      have c9 := hW.c 9 _ rfl
      have c10 := hW.c 10 _ rfl
      have c11 := hW.c 11 _ rfl
      have c7 := hW.c 7 _ rfl
      have c13 := hW.c 13 _ rfl
      have c14 := hW.c 14 _ rfl
      go_simp
      (try with_reducible rfl)
    simp only [Act.put, List.setIfInBounds_toArray, List.set_cons_zero, List.set_cons_succ]
    clear hG
    have hgl := hI.lt
    have hIa := hI.below Ba
    refine ord_one 14 rfl (by kernel_rfl) rfl ?_
    intro K hK
    rw [if_pos (by rfl)]
    refine wp_store_mid 40 _ _ rfl gI 0 (itC (hemI x L wd) (.slice A9 nL c9) (.slice Aa nc ca)).toArray rfl rfl hIa.there (by kernel_rfl) (all_oneCell_toArray (hemI_one rfl rfl)) ?_
    refine hK.out _ _ ((hS.below Ba).apart HSI.out 0 _) ?_
    clear hK K
    try simp only
    obtain ⟨wz, hwz⟩ : ∃ W, W = wa.setCells gI 0 (itC (hemI x L wd) (.slice A9 nL c9) (.slice Aa nc ca)) := ⟨_, rfl⟩
    have hwz' : wa.setCells gI 0 (itC (hemI x L wd) (.slice A9 nL c9) (.slice Aa nc ca)).toArray.toList = wz := hwz.symm
    rw [hwz']
    have HWZ := Lib.hid hwz
    clear hwz hwz'
    have hG : BC wz gS (stC x (.slice Ap np cp) (.slice Ac nc cc) (.slice Ad nd cd)) := by rw [HWZ.out]; exact (hS.below Ba).apart HSI.out 0 _
    refine ord_take (v := ?_) 15 rfl rfl (by kernel_rfl) (by kernel_rfl) (fun _ _ _ h => h) (Or.inl ⟨by rfl, ?_⟩) hG ?_
    rotate_left
    · intro W hW
      have c8 := hW.c 8 _ rfl
      have c9 := hW.c 9 _ rfl
      have c10 := hW.c 10 _ rfl
      have c11 := hW.c 11 _ rfl
      have c7 := hW.c 7 _ rfl
      have c13 := hW.c 13 _ rfl
      have c14 := hW.c 14 _ rfl
      go_simp
      (try with_reducible rfl)
    simp only [Act.put, List.setIfInBounds_toArray, List.set_cons_zero, List.set_cons_succ]
    clear hG
    refine ⟨by kernel_rfl, ?_⟩
    refine NoPanic.normal ?_
    have hFz := hIa.putAll (itC (hemI x L wd) (.slice A9 nL c9) (.slice Aa nc ca)) rfl
    have hFB := below_setCells HGI.out (itC (hemI x L wd) (.slice A9 nL c9) (.slice Aa nc ca)) 0 _ (btr Q Ba)
    have hoI : ItOwn wa (World.heap w3).size (hemI x L wd) (.slice A9 nL c9) (.slice Aa nc ca) := ⟨by have h := own_below ho9 ba; have e := HLN.out; show World.ownsRow _ _ _ _ _ L.length _; rw [e]; exact own_mono h (Nat.le_refl _), hoa.mono B9.size⟩
    have hFO := hoI.setCells hgl 0 (itC (hemI x L wd) (.slice A9 nL c9) (.slice Aa nc ca))
    rw [← HWZ.out] at hFz hFB hFO
    have hQs := Q.size
    go_wp2_with fail
    refine bodyPost_ret (result_rec rfl rfl rfl itT hFz rfl) rfl ?_
    rw [HYE.out]
    exact ⟨_, _, rfl, hFO.mono hQs, hFB⟩
  have hd0' : decide (0 < nd) = true := by simp; omega
  have HY5 := Lib.hid (show Y = if de ≠ 0 then (zeroI, de) else (hemI x DL wd, 0) by rw [HY4.out, if_neg (fun e => hd0 (HND.out.1 e))])
  have HDA3 := Lib.hid (HDA2.out (by omega) HF0.out)
  clear HY4 hd0 HDA2
  go_wp2_with (first
    | (refine wpList_load_rec rfl _ _ rfl gS rfl _ 24 stateT hS rfl ?_)
    | fail)
  refine (HDA3.out _ Q A2 c2 hs2).mono ?_; rintro e w4 ⟨A4, c4, rfl, ho4, b1⟩
  replace Q := btr Q b1
  replace hS := hS.below b1
  replace hI := hI.below b1
  have hs4 := own_sl ho4
  clear b1 ho4 a15 HDA3 hs2
  by_cases he0 : de = 0
  case neg =>
    have HE := Lib.hid (show Y = (zeroI, de) by rw [HY5.out, if_pos he0])
    have he0' : (de != 0) = true := by simp [he0]
    clear he0 HY5
    have hFz := hI.putAll (itC zeroI (.slice none 0 0) (.slice none 0 0)) rfl
    have hFB := below_setCells HGI.out (itC zeroI (.slice none 0 0) (.slice none 0 0)) 0 _ Q
    go_wp2_with (first
      | (refine wpList_load_rec rfl _ _ rfl gI rfl _ 21 itT hI rfl ?_)
      | (refine wpList_store_rec rfl _ _ _ rfl gI (itC zeroI (.slice none 0 0) (.slice none 0 0)) _ rfl rfl 21 itT hI rfl rfl zeroI_one ?_)
      | fail)
    refine bodyPost_ret (result_rec rfl rfl rfl itT hFz rfl) rfl ?_
    rw [HE.out]
    exact ⟨_, _, rfl, zeroI_own _ _, hFB⟩
  have HYE := Lib.hid (show Y = (hemI x DL wd, 0) by rw [HY5.out, if_neg (by simpa using he0)])
  have he0' : (de != 0) = false := by simp [he0]
  have HLN := HND2
  clear he0 HY5
  obtain ⟨f1, f2, f3, f4⟩ := HFEW.out
  rw [← HNC.out] at f2
  have HF3 := Lib.hid f3
  clear f1 f3 f4 HFEW
  go_upto_region 13 with (fail)
  refine wp_region_ord (fun W => BC W gS (stC x (.slice Ap np cp) (.slice Ac nc cc) (.slice Ad nd cd))) [] 16 (by kernel_rfl) (by kernel_rfl) (hS.below (bdrew (Below.refl _ _))) ?_
  intro hG
  refine ord_take (v := ?_) 0 rfl rfl (by kernel_rfl) (by kernel_rfl) (fun _ _ _ h => h) (Or.inl ⟨by rfl, ?_⟩) hG ?_
  rotate_left
  · intro W hW
    have c8 := hW.c 8 _ rfl
    have c9 := hW.c 9 _ rfl
    have c10 := hW.c 10 _ rfl
    have c11 := hW.c 11 _ rfl
    have c7 := hW.c 7 _ rfl
    have c13 := hW.c 13 _ rfl
    have c14 := hW.c 14 _ rfl
    go_simp
    (try with_reducible rfl)
  simp only [Act.put, List.setIfInBounds_toArray, List.set_cons_zero, List.set_cons_succ]
  refine ord_take (v := ?_) 2 rfl rfl (by kernel_rfl) (by kernel_rfl) (fun _ _ _ h => h) (Or.inl ⟨by rfl, ?_⟩) hG ?_
  rotate_left
  · intro W hW
    have c8 := hW.c 8 _ rfl
    have c9 := hW.c 9 _ rfl
    have c10 := hW.c 10 _ rfl
    have c11 := hW.c 11 _ rfl
    have c7 := hW.c 7 _ rfl
    have c13 := hW.c 13 _ rfl
    have c14 := hW.c 14 _ rfl
    go_simp
    (try with_reducible rfl)
  simp only [Act.put, List.setIfInBounds_toArray, List.set_cons_zero, List.set_cons_succ]
  refine ord_take (v := ?_) 3 rfl rfl (by kernel_rfl) (by kernel_rfl) (fun _ _ _ h => h) (Or.inl ⟨by rfl, ?_⟩) hG ?_
  rotate_left
  · intro W hW
    have c8 := hW.c 8 _ rfl
    have c9 := hW.c 9 _ rfl
    have c10 := hW.c 10 _ rfl
    have c11 := hW.c 11 _ rfl
    have c7 := hW.c 7 _ rfl
    have c13 := hW.c 13 _ rfl
    have c14 := hW.c 14 _ rfl
    go_simp
    (try with_reducible rfl)
  simp only [Act.put, List.setIfInBounds_toArray, List.set_cons_zero, List.set_cons_succ]
  refine ord_take (v := ?_) 4 rfl rfl (by kernel_rfl) (by kernel_rfl) (fun _ _ _ h => h) (Or.inl ⟨by rfl, ?_⟩) hG ?_
  rotate_left
  · intro W hW
    have c8 := hW.c 8 _ rfl
    have c9 := hW.c 9 _ rfl
    have c10 := hW.c 10 _ rfl
    have c11 := hW.c 11 _ rfl
    have c7 := hW.c 7 _ rfl
    have c13 := hW.c 13 _ rfl
    have c14 := hW.c 14 _ rfl
    go_simp
    (try with_reducible rfl)
  simp only [Act.put, List.setIfInBounds_toArray, List.set_cons_zero, List.set_cons_succ]
  refine ord_take (v := ?_) 5 rfl rfl (by kernel_rfl) (by kernel_rfl) (fun _ _ _ h => h) (Or.inl ⟨by rfl, ?_⟩) hG ?_
  rotate_left
  · intro W hW
    have c8 := hW.c 8 _ rfl
    have c9 := hW.c 9 _ rfl
    have c10 := hW.c 10 _ rfl
    have c11 := hW.c 11 _ rfl
    have c7 := hW.c 7 _ rfl
    have c13 := hW.c 13 _ rfl
    have c14 := hW.c 14 _ rfl
    go_simp
    (try with_reducible rfl)
  simp only [Act.put, List.setIfInBounds_toArray, List.set_cons_zero, List.set_cons_succ]
  refine ord_take (v := ?_) 6 rfl rfl (by kernel_rfl) (by kernel_rfl) (fun _ _ _ h => h) (Or.inl ⟨by rfl, ?_⟩) hG ?_
  rotate_left
  · intro W hW
    have c8 := hW.c 8 _ rfl
    have c9 := hW.c 9 _ rfl
    have c10 := hW.c 10 _ rfl
    have c11 := hW.c 11 _ rfl
    have c7 := hW.c 7 _ rfl
    have c13 := hW.c 13 _ rfl
    have c14 := hW.c 14 _ rfl
    go_simp
    (try with_reducible rfl)
  simp only [Act.put, List.setIfInBounds_toArray, List.set_cons_zero, List.set_cons_succ]
  refine ord_take (v := ?_) 7 rfl rfl (by kernel_rfl) (by kernel_rfl) (fun _ _ _ h => h) (Or.inl ⟨by rfl, ?_⟩) hG ?_
  rotate_left
  · intro W hW
    have c8 := hW.c 8 _ rfl
    have c9 := hW.c 9 _ rfl
    have c10 := hW.c 10 _ rfl
    have c11 := hW.c 11 _ rfl
    have c7 := hW.c 7 _ rfl
    have c13 := hW.c 13 _ rfl
    have c14 := hW.c 14 _ rfl
    go_simp
    (try with_reducible rfl)
  simp only [Act.put, List.setIfInBounds_toArray, List.set_cons_zero, List.set_cons_succ]
  refine ord_take (v := ?_) 8 rfl rfl (by kernel_rfl) (by kernel_rfl) (fun _ _ _ h => h) (Or.inl ⟨by rfl, ?_⟩) hG ?_
  rotate_left
  · intro W hW
    have c8 := hW.c 8 _ rfl
    have c9 := hW.c 9 _ rfl
    have c10 := hW.c 10 _ rfl
    have c11 := hW.c 11 _ rfl
    have c7 := hW.c 7 _ rfl
    have c13 := hW.c 13 _ rfl
    have c14 := hW.c 14 _ rfl
    go_simp
    (try with_reducible rfl)
  simp only [Act.put, List.setIfInBounds_toArray, List.set_cons_zero, List.set_cons_succ]
  refine ord_take (v := ?_) 9 rfl rfl (by kernel_rfl) (by kernel_rfl) (fun _ _ _ h => h) (Or.inl ⟨by rfl, ?_⟩) hG ?_
  rotate_left
  · intro W hW
    have c8 := hW.c 8 _ rfl
    have c9 := hW.c 9 _ rfl
    have c10 := hW.c 10 _ rfl
    have c11 := hW.c 11 _ rfl
    have c7 := hW.c 7 _ rfl
    have c13 := hW.c 13 _ rfl
    have c14 := hW.c 14 _ rfl
    go_simp
    (try with_reducible rfl)
  simp only [Act.put, List.setIfInBounds_toArray, List.set_cons_zero, List.set_cons_succ]
  refine ord_take (v := ?_) 10 rfl rfl (by kernel_rfl) (by kernel_rfl) (fun _ _ _ h => h) (Or.inl ⟨by rfl, ?_⟩) hG ?_
  rotate_left
  · intro W hW
    have c8 := hW.c 8 _ rfl
    have c9 := hW.c 9 _ rfl
    have c10 := hW.c 10 _ rfl
    have c11 := hW.c 11 _ rfl
    have c7 := hW.c 7 _ rfl
    have c13 := hW.c 13 _ rfl
    have c14 := hW.c 14 _ rfl
    go_simp
    (try with_reducible rfl)
  simp only [Act.put, List.setIfInBounds_toArray, List.set_cons_zero, List.set_cons_succ]
  refine ord_take (v := ?_) 11 rfl rfl (by kernel_rfl) (by kernel_rfl) (fun _ _ _ h => h) (Or.inl ⟨by rfl, ?_⟩) hG ?_
  rotate_left
  · intro W hW
    have c8 := hW.c 8 _ rfl
    have c9 := hW.c 9 _ rfl
    have c10 := hW.c 10 _ rfl
    have c11 := hW.c 11 _ rfl
    have c7 := hW.c 7 _ rfl
    have c13 := hW.c 13 _ rfl
    have c14 := hW.c 14 _ rfl
    go_simp
    (try with_reducible rfl)
  simp only [Act.put, List.setIfInBounds_toArray, List.set_cons_zero, List.set_cons_succ]
  clear hG
  refine ord_one 1 rfl (by kernel_rfl) rfl ?_
  intro K hK
  go_simp
  refine (ownSeg_any A4 nD c4 (sgs DL) _ (hs4.below (bdrew (Below.refl _ _))) (oneCell_sgs _) (by omega)).mono ?_; rintro e w9 ⟨A9, c9, rfl, ho9, b9⟩
  have B9 := btr (bdrew (Below.refl (World.heap w4).size w4)) b9
  refine hK.out _ _ (hS.below B9) ?_
  clear hK K
  try simp only
  refine ord_one 12 rfl (by kernel_rfl) rfl ?_
  intro K hK
  go_simp
  refine (clips_any Ac nc cc x.cl _ HNC.out (by omega) HF3.out (HCL.out.below (btr Q B9))).mono ?_; rintro e wa ⟨Aa, ca, rfl, hoa, ba⟩
  have Ba := btr B9 ba
  refine hK.out _ _ (hS.below Ba) ?_
  clear hK K
  try simp only
  have hG := hS.below Ba
  refine ord_take (v := ?_) 13 rfl rfl (by kernel_rfl) (by kernel_rfl) (fun _ _ _ h => h) (Or.inl ⟨by rfl, ?_⟩) hG ?_
  rotate_left
  · intro W hW
    have c8 := hW.c 8 _ rfl
    have c9 := hW.c 9 _ rfl
    have c10 := hW.c 10 _ rfl
    have c11 := hW.c 11 _ rfl
    have c7 := hW.c 7 _ rfl
    have c13 := hW.c 13 _ rfl
    have c14 := hW.c 14 _ rfl
    go_simp
    (try with_reducible rfl)
  simp only [Act.put, List.setIfInBounds_toArray, List.set_cons_zero, List.set_cons_succ]
  clear hG
  have hgl := hI.lt
  have hIa := hI.below Ba
  refine ord_one 14 rfl (by kernel_rfl) rfl ?_
  intro K hK
  rw [if_pos (by rfl)]
  refine wp_store_mid 40 _ _ rfl gI 0 (itC (hemI x DL wd) (.slice A9 nD c9) (.slice Aa nc ca)).toArray rfl rfl hIa.there (by kernel_rfl) (all_oneCell_toArray (hemI_one rfl rfl)) ?_
  refine hK.out _ _ ((hS.below Ba).apart HSI.out 0 _) ?_
  clear hK K
  try simp only
  obtain ⟨wz, hwz⟩ : ∃ W, W = wa.setCells gI 0 (itC (hemI x DL wd) (.slice A9 nD c9) (.slice Aa nc ca)) := ⟨_, rfl⟩
  have hwz' : wa.setCells gI 0 (itC (hemI x DL wd) (.slice A9 nD c9) (.slice Aa nc ca)).toArray.toList = wz := hwz.symm
  rw [hwz']
  have HWZ := Lib.hid hwz
  clear hwz hwz'
  have hG : BC wz gS (stC x (.slice Ap np cp) (.slice Ac nc cc) (.slice Ad nd cd)) := by rw [HWZ.out]; exact (hS.below Ba).apart HSI.out 0 _
  refine ord_take (v := ?_) 15 rfl rfl (by kernel_rfl) (by kernel_rfl) (fun _ _ _ h => h) (Or.inl ⟨by rfl, ?_⟩) hG ?_
  rotate_left
  · intro W hW
    have c8 := hW.c 8 _ rfl
    have c9 := hW.c 9 _ rfl
    have c10 := hW.c 10 _ rfl
    have c11 := hW.c 11 _ rfl
    have c7 := hW.c 7 _ rfl
    have c13 := hW.c 13 _ rfl
    have c14 := hW.c 14 _ rfl
    go_simp
    (try with_reducible rfl)
  simp only [Act.put, List.setIfInBounds_toArray, List.set_cons_zero, List.set_cons_succ]
  clear hG
  refine ⟨by kernel_rfl, ?_⟩
  refine NoPanic.normal ?_
  have hFz := hIa.putAll (itC (hemI x DL wd) (.slice A9 nD c9) (.slice Aa nc ca)) rfl
  have hFB := below_setCells HGI.out (itC (hemI x DL wd) (.slice A9 nD c9) (.slice Aa nc ca)) 0 _ (btr Q Ba)
  have hoI : ItOwn wa (World.heap w4).size (hemI x DL wd) (.slice A9 nD c9) (.slice Aa nc ca) := ⟨by have h := own_below ho9 ba; have e := HLN.out; show World.ownsRow _ _ _ _ _ DL.length _; rw [e]; exact own_mono h (Nat.le_refl _), hoa.mono B9.size⟩
  have hFO := hoI.setCells hgl 0 (itC (hemI x DL wd) (.slice A9 nD c9) (.slice Aa nc ca))
  rw [← HWZ.out] at hFz hFB hFO
  have hQs := Q.size
  go_wp2_with fail
  refine bodyPost_ret (result_rec rfl rfl rfl itT hFz rfl) rfl ?_
  rw [HYE.out]
  exact ⟨_, _, rfl, hFO.mono hQs, hFB⟩
end Go.Proofs.YtdfkbbcoolgfiaaGreat
