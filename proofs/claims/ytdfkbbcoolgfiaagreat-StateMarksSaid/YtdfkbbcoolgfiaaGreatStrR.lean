/- The reference's Stroke of a state. -/
import Derived.Test.YtdfkbbcoolgfiaaGreatStStr
import Derived.Test.YtdfkbbcoolgfiaaGreatMSm
import Derived.Test.YtdfkbbcoolgfiaaGreatMRf
namespace Go.Proofs.YtdfkbbcoolgfiaaGreat
open Go.RowKit Go.BigFrame

theorem rflat_is (A : Option Addr) (n c : Nat) (l L : List Sg) (er : Int) (m : Nat) (w : World) (hm : n ≤ 1000000) (h : Sl w 5 A n (sgs l)) (hE : flatE l = (L, er)) (hL : L.length = m) :
    Calls Tryz.prog 33 #[.slice A n c] w fun e w' => ∃ A' c', e = .returned (.tuple #[.slice A' m c', .int .i64 er]) ∧ w'.ownsRow w.heap.size 63 5 (.slice A' m c') m (sgs L) ∧ Below w.heap.size w w' := by
  subst hL
  rcases Bool.eq_false_or_eq_true (mayB l) with hok | hok
  · have := ref_Flat_yes A n c l w hm h hok
    rwa [hE] at this
  · have := ref_Flat_no A n c l w hm h hok
    rwa [hE] at this
theorem yieldsIf_stm {P : Program} {ops : Array Oper} {S : World → Prop} {op : Oper} {a : Act} (hw : Region.wanted op (yielded ops a.tmps) = true) (t : TypeId) (y : Operand) (ho : op.op = .load t y)
    (g : Nat) (hx : a.eval y = .pointer (some ⟨g, 0, none⟩)) (s : St) (Pv C D : Value) (hT : RecT P t 6) (hS : ∀ W, S W → BC W g (stC s Pv C D)) : YieldsIf P ops S op (.agg (mtC s.m).toArray) a := by
  obtain ⟨d, hu, hd, hi⟩ := hT
  refine yieldsIf_load_mid hw t y ho g 0 hx (mtC s.m) d (fun W hW j v hv => ?_) hu hd (by rw [hi]; rfl)
  rw [Nat.zero_add]
  refine (hS W hW).c j v ?_
  have hj : j < (mtC s.m).length := (List.getElem?_eq_some_iff.1 hv).1
  show (mtC s.m ++ _)[j]? = some v
  rw [List.getElem?_append_left hj]; exact hv
set_option maxRecDepth 100000 in
set_option maxHeartbeats 4000000 in
theorem rStroke_any (x : St) (P C D : Value) (Y : It × Int) (w : World) (h : StAt w x P C D) (hf : stFew x) (hY : strokeS x = Y) : Calls Tryz.prog 10 #[.agg (stC x P C D).toArray] w
    fun r w' => ∃ P' C', r = .returned (.tuple #[.agg (itC Y.1 P' C').toArray, .int .i64 Y.2]) ∧ ItAt w' Y.1 P' C' ∧ Below w.heap.size w w' := by
  have HCV0 := h.c
  obtain ⟨Ac, cc, rfl, hcl, hcc, hcm⟩ := h.c.sl
  obtain ⟨Ap, cp, rfl, hps, hpc, hpm⟩ := h.p
  obtain ⟨Ad, cd, rfl, hds, hdc, hdm⟩ := h.d
  obtain ⟨nc, hnc⟩ : ∃ n, n = x.cl.length := ⟨_, rfl⟩
  obtain ⟨np, hnp⟩ : ∃ n, n = x.p.length := ⟨_, rfl⟩
  obtain ⟨nd, hnd⟩ : ∃ n, n = x.da.length := ⟨_, rfl⟩
  rw [← hnc] at HCV0
  rw [← hnc, ← hnp, ← hnd] at h ⊢
  rw [← hnp] at hps
  rw [← hnd] at hds
  obtain ⟨w0, hw0⟩ : ∃ w0 : World, w0 = (w.alloc (.cells (stC x (.slice Ap np cp) (.slice Ac nc cc) (.slice Ad nd cd)).toArray 32)).alloc (.cells (itC zeroI (.slice none 0 0) (.slice none 0 0)).toArray 40) := ⟨_, rfl⟩
  have Q : Below w.heap.size w w0 := by rw [hw0]; exact bal (bal (Below.refl _ _) _) _
  have hS : BC w0 w.heap.size (stC x (.slice Ap np cp) (.slice Ac nc cc) (.slice Ad nd cd)) := by rw [hw0]; exact (BC.new (stC x (.slice Ap np cp) (.slice Ac nc cc) (.slice Ad nd cd)) 32 rfl).below (bal (Below.refl _ _) _)
  have hI : BC w0 (w.heap.size + 1) (itC zeroI (.slice none 0 0) (.slice none 0 0)) := by rw [hw0]; exact BC.new (w := w.alloc _) _ 40 (by simp)
  obtain ⟨gI, hgI⟩ : ∃ g, g = w.heap.size + 1 := ⟨_, rfl⟩
  obtain ⟨gS, hgS⟩ : ∃ g, g = w.heap.size := ⟨_, rfl⟩
  have HGI : Hid (w.heap.size ≤ gI) := Lib.hid (by omega)
  have E1 := Lib.hid hgI
  have E3 := Lib.hid hgS
  rw [← hgI] at hI
  rw [← hgS] at hS
  rw [zeroI_lit] at hw0
  obtain ⟨⟨L, fe⟩, hfe⟩ : ∃ R, flatE x.p = R := ⟨_, rfl⟩
  obtain ⟨⟨wd, we⟩, hwe⟩ : ∃ R, wideM x.m x.wide = R := ⟨_, rfl⟩
  obtain ⟨⟨DL, de⟩, hde⟩ : ∃ R, dashedS x.m x.da x.ph L = R := ⟨_, rfl⟩
  have HY := Lib.hid (show Y = if mayS x = false then (zeroI, 1) else if fe ≠ 0 then (zeroI, fe) else if we ≠ 0 then (zeroI, we) else if x.da = [] then (hemI x L wd, 0) else if de ≠ 0 then (zeroI, de) else (hemI x DL wd, 0) by
    rw [← hY]; unfold strokeS; rw [hfe, hwe]; simp only [hde])
  obtain ⟨nL, hnL⟩ : ∃ n, L.length = n := ⟨_, rfl⟩
  obtain ⟨nD, hnD⟩ : ∃ n, DL.length = n := ⟨_, rfl⟩
  have HM := Lib.hid fun W (hq : Below w.heap.size w W) => rStMay_any x (.slice Ap np cp) (.slice Ac nc cc) (.slice Ad nd cd) W (h.below hq) hf
  have HFL := Lib.hid fun (hm : np ≤ 1000) W (hq : Below w.heap.size w W) => rflat_is Ap np cp x.p L fe nL W (by omega) (hps.below hq) hfe hnL
  have HWD := Lib.hid fun W => rWidth_any x.m x.wide (wd, we) W hwe
  have HW := Lib.hid fun z R W => rWidth_any x.m z R W
  simp only [mtv_is] at HWD HW
  have HFO := Lib.hid (show mayS x = true → fe = 0 → mayB L = true ∧ ∀ s ∈ L, s.kind ≠ 3 from fun hm h0 => by
    have := flatE_ok (mayS_da hm).2 (by rw [hfe]; exact h0)
    rw [hfe] at this
    exact ⟨this.1, this.2.1⟩)
  have HDE := Lib.hid hde
  have HND := Lib.hid (show x.da = [] ↔ nd = 0 by rw [hnd]; exact List.length_eq_zero_iff.symm)
  have HNQ := Lib.hid hnd
  have HNC := Lib.hid hnc
  have HNP := Lib.hid hnp
  have HNL := Lib.hid hnL
  have HND2 := Lib.hid hnD
  have HCV := Lib.hid HCV0
  have HDS := Lib.hid fun W (hq : Below w.heap.size w W) => hds.below hq
  have HFEW := Lib.hid hf
  clear hY h hps hds hcl hfe hwe hde hnc hnp hnd hnL hnD hgI hgS hdc hpc hf HCV0
  go_enter Tryz.func10, Tryz.ntmps10
  go_upto_region 1 with (fail)
  rw [← hw0, ← E1.out, ← E3.out]
  clear hw0 E1 E3
  go_wp2_with (first
    | (refine wpList_load_rec rfl _ _ rfl gS rfl _ 24 stateT hS rfl ?_)
    | fail)
  refine (HM.out _ Q).mono ?_; rintro e w1 ⟨rfl, b1⟩
  replace Q := btr Q b1
  replace hS := hS.below b1
  replace hI := hI.below b1
  clear b1 HM
  cases hm : mayS x
  · have HE := Lib.hid (show Y = (zeroI, 1) by rw [HY.out, hm]; rfl)
    clear hm HY
    have hFz := hI.putAll (itC zeroI (.slice none 0 0) (.slice none 0 0)) rfl
    have hFB := below_setCells HGI.out (itC zeroI (.slice none 0 0) (.slice none 0 0)) 0 _ Q
    go_wp2_with (first
      | (refine wpList_store_rec rfl _ _ _ rfl gI (itC zeroI (.slice none 0 0) (.slice none 0 0)) _ rfl rfl 21 itT hI rfl rfl zeroI_one ?_)
      | fail)
    refine bodyPost_ret (result_rec rfl rfl rfl itT hFz rfl) rfl ?_
    rw [HE.out]
    exact ⟨_, _, rfl, ⟨PathV.nil, ClV.nil⟩, hFB⟩
  have HMS := Lib.hid hm
  have hnp3 : np ≤ 1000 := by rw [HNP.out]; exact HFEW.out.1
  have HFL2 := Lib.hid (HFL.out hnp3)
  have HY2 := Lib.hid (show Y = if fe ≠ 0 then (zeroI, fe) else if we ≠ 0 then (zeroI, we) else if x.da = [] then (hemI x L wd, 0) else if de ≠ 0 then (zeroI, de) else (hemI x DL wd, 0) by rw [HY.out, hm]; rfl)
  have a6 := hS.c 6 _ rfl
  have HLT := Lib.hid hI.lt
  clear hnp3 HFL hm HY
  go_wp2_with fail
  refine (HFL2.out _ Q).mono ?_; rintro e w2 ⟨A2, c2, rfl, ho2, b1⟩
  replace Q := btr Q b1
  replace hS := hS.below b1
  replace hI := hI.below b1
  clear b1 a6 HFL2
  by_cases hf0 : fe = 0
  case neg =>
    have HE := Lib.hid (show Y = (zeroI, fe) by rw [HY2.out, if_pos hf0])
    have hf0' : (fe != 0) = true := by simp [hf0]
    clear hf0 HY2
    have hFz := hI.putAll (itC zeroI (.slice none 0 0) (.slice none 0 0)) rfl
    have hFB := below_setCells HGI.out (itC zeroI (.slice none 0 0) (.slice none 0 0)) 0 _ Q
    go_wp2_with (first
      | (refine wpList_store_rec rfl _ _ _ rfl gI (itC zeroI (.slice none 0 0) (.slice none 0 0)) _ rfl rfl 21 itT hI rfl rfl zeroI_one ?_)
      | fail)
    refine bodyPost_ret (result_rec rfl rfl rfl itT hFz rfl) rfl ?_
    rw [HE.out]
    exact ⟨_, _, rfl, ⟨PathV.nil, ClV.nil⟩, hFB⟩
  have HY3 := Lib.hid (show Y = if we ≠ 0 then (zeroI, we) else if x.da = [] then (hemI x L wd, 0) else if de ≠ 0 then (zeroI, de) else (hemI x DL wd, 0) by rw [HY2.out, if_neg (by simpa using hf0)])
  have hf0' : (fe != 0) = false := by simp [hf0]
  have HOK := Lib.hid (HFO.out HMS.out hf0)
  have a12 := hS.c 12 _ rfl
  clear hf0 HY2 HFO
  go_wp2_with (first
    | (refine wpList_load_stm rfl _ _ rfl gS rfl x _ _ _ matT hS ?_)
    | fail)
  refine (HWD.out _).mono ?_; rintro e w3 ⟨rfl, b1⟩
  replace Q := btr Q b1
  replace hS := hS.below b1
  replace hI := hI.below b1
  replace ho2 := own_below ho2 b1
  clear b1 HWD a12
  by_cases hw0 : we = 0
  case neg =>
    have HE := Lib.hid (show Y = (zeroI, we) by rw [HY3.out, if_pos hw0])
    have hw0' : (we != 0) = true := by simp [hw0]
    clear hw0 HY3
    have hFz := hI.putAll (itC zeroI (.slice none 0 0) (.slice none 0 0)) rfl
    have hFB := below_setCells HGI.out (itC zeroI (.slice none 0 0) (.slice none 0 0)) 0 _ Q
    go_wp2_with (first
      | (refine wpList_store_rec rfl _ _ _ rfl gI (itC zeroI (.slice none 0 0) (.slice none 0 0)) _ rfl rfl 21 itT hI rfl rfl zeroI_one ?_)
      | fail)
    refine bodyPost_ret (result_rec rfl rfl rfl itT hFz rfl) rfl ?_
    rw [HE.out]
    exact ⟨_, _, rfl, ⟨PathV.nil, ClV.nil⟩, hFB⟩
  have HY4 := Lib.hid (show Y = if x.da = [] then (hemI x L wd, 0) else if de ≠ 0 then (zeroI, de) else (hemI x DL wd, 0) by rw [HY3.out, if_neg (by simpa using hw0)])
  have hw0' : (we != 0) = false := by simp [hw0]
  have a15 := hS.c 15 _ rfl
  clear hw0 HY3
  by_cases hd0 : nd = 0
  · have HYE := Lib.hid (show Y = (hemI x L wd, 0) by rw [HY4.out, if_pos (HND.out.2 hd0)])
    have HLN := HNL
    have hd0' : decide (0 < nd) = false := by simp; omega
    clear HY4 hd0
    have a7 := hS.c 7 _ rfl
    have a8 := hS.c 8 _ rfl
    have a9 := hS.c 9 _ rfl
    have a10 := hS.c 10 _ rfl
    have a11 := hS.c 11 _ rfl
    have a13 := hS.c 13 _ rfl
    have a14 := hS.c 14 _ rfl
    have hFz := hI.putAll (itC (hemI x L wd) (.slice A2 nL c2) (.slice Ac nc cc)) rfl
    have hFB := below_setCells HGI.out (itC (hemI x L wd) (.slice A2 nL c2) (.slice Ac nc cc)) 0 _ Q
    have hoF := own_setCells HLT.out (itC (hemI x L wd) (.slice A2 nL c2) (.slice Ac nc cc)) 0 _ ho2
    go_wp2_with (first
      | (refine wpList_store_rec rfl _ _ _ rfl gI (itC (hemI x L wd) (.slice A2 nL c2) (.slice Ac nc cc)) _ rfl rfl 21 itT hI rfl rfl (hemI_one rfl rfl) ?_)
      | fail)
    refine bodyPost_ret (result_rec rfl rfl rfl itT hFz rfl) rfl ?_
    rw [HYE.out]
    obtain rfl := HLN.out
    exact ⟨_, _, rfl, ⟨own_pathV hoF, HCV.out.below hFB⟩, hFB⟩
  have hd0' : decide (0 < nd) = true := by simp; omega
  have hd1 : 1 ≤ nd := by omega
  have HY5 := Lib.hid (show Y = if de ≠ 0 then (zeroI, de) else (hemI x DL wd, 0) by rw [HY4.out, if_neg (fun e => hd0 (HND.out.1 e))])
  have hd11 : nd ≤ 11 := by rw [HNQ.out]; exact (mayS_da HMS.out).1
  clear HY4 hd0 HND
  go_upto_region 11 with (fail)
  clear hd0'
  go_wp2_with fail
  clear a15
  go_loopw [7, 8] (fun on i wr => ∃ (k : Nat) (A' : Option Addr) (c' : Nat) (ws : List Int), k ≤ nd ∧ on = .slice A' k c' ∧ i = .int .i64 (k : Int) ∧ Below w3.heap.size w3 wr ∧ wr.ownsRow w3.heap.size 3 1 (.slice A' k c') k (ints ws) ∧
    Hid (ws = wsL x.m (x.da.take k) ∧ ∀ d ∈ x.da.take k, (wideM x.m d).2 = 0)) (fun _ i _ => nd - (intOf i).toNat)
  case atStart => exact ⟨0, none, 0, [], by omega, rfl, rfl, Below.refl _ _, own_nil, by simp [Hid, wsL]⟩
  case round =>
    obtain ⟨wo, rfl⟩ : ∃ wo : World, wo = wr := ⟨_, rfl⟩
    obtain ⟨k, A', c', ws, hk, rfl, rfl, hb, hown, hws⟩ := hrel
    have Q3 := Q
    have hS3 := hS
    replace Q := btr Q hb
    replace hS := hS.below hb
    replace hI := hI.below hb
    have ho4 := own_below ho2 hb
    have a15 := hS.c 15 _ rfl
    by_cases hlt : k < nd
    · have hkl : k < x.da.length := by rw [← HNQ.out]; exact hlt
      obtain ⟨b, off, rfl, hbl, c0⟩ := (HDS.out _ Q).intAt k hlt hkl
      obtain ⟨z, hz⟩ : ∃ z, z = x.da[k] := ⟨_, rfl⟩
      rw [← hz] at c0
      have HZ := Lib.hid hz
      obtain ⟨⟨v, e⟩, hve⟩ : ∃ R, wideM x.m z = R := ⟨_, rfl⟩
      have HWz := Lib.hid fun W => HW.out z (v, e) W hve
      have HVE := Lib.hid hve
      clear hz hve
      go_upto_region 14 with (fail)
      have q15 := fun q : Grown wo => q.cell a15 hS.lt
      have q0 := fun q : Grown wo => q.cell c0 hbl
      have HSm := Lib.hid fun (V : World) (hV : ∃ y : Grown wo, V = y.world) => (show BC V gS (stC x (.slice Ap np cp) (.slice Ac nc cc) (.slice (some ⟨b, off, none⟩) nd cd)) by obtain ⟨y, rfl⟩ := hV; exact hS.below y.below)
      clear a15 c0
      refine wp_region_ord (fun W => ∃ y : Grown wo, W = y.world) [] 13 (by kernel_rfl) (by kernel_rfl) ⟨⟨_, bdrew (Below.refl _ _)⟩, rfl⟩ ?_
      intro hG
      refine ord_take (v := ?_) 0 rfl rfl (by kernel_rfl) (by kernel_rfl) (fun _ _ _ h => h) (Or.inl ⟨by rfl, ?_⟩) hG ?_
      rotate_left
      · rintro W ⟨y, rfl⟩
        go_simp
        (try with_reducible rfl)
      simp only [Act.put, List.setIfInBounds_toArray, List.set_cons_zero, List.set_cons_succ]
      refine ord_take 1 rfl rfl (by kernel_rfl) (by kernel_rfl) (fun _ _ _ h => h) (yieldsIf_stm (by rfl) _ _ rfl gS rfl x _ _ _ matT HSm.out) hG ?_
      simp only [Act.put, List.setIfInBounds_toArray, List.set_cons_zero, List.set_cons_succ]
      refine ord_take (v := ?_) 2 rfl rfl (by kernel_rfl) (by kernel_rfl) (fun _ _ _ h => h) (Or.inl ⟨by rfl, ?_⟩) hG ?_
      rotate_left
      · rintro W ⟨y, rfl⟩
        go_simp
        (try with_reducible rfl)
      simp only [Act.put, List.setIfInBounds_toArray, List.set_cons_zero, List.set_cons_succ]
      refine ord_take (v := ?_) 3 rfl rfl (by kernel_rfl) (by kernel_rfl) (fun _ _ _ h => h) (Or.inl ⟨by rfl, ?_⟩) hG ?_
      rotate_left
      · rintro W ⟨y, rfl⟩
        go_simp
        (try with_reducible rfl)
      simp only [Act.put, List.setIfInBounds_toArray, List.set_cons_zero, List.set_cons_succ]
      refine ord_take (v := ?_) 4 rfl rfl (by kernel_rfl) (by kernel_rfl) (fun _ _ _ h => h) (Or.inl ⟨by rfl, ?_⟩) hG ?_
      rotate_left
      · rintro W ⟨y, rfl⟩
        go_simp
        (try with_reducible rfl)
      simp only [Act.put, List.setIfInBounds_toArray, List.set_cons_zero, List.set_cons_succ]
      refine ord_take (v := ?_) 5 rfl rfl (by kernel_rfl) (by kernel_rfl) (fun _ _ _ h => h) (Or.inl ⟨by rfl, ?_⟩) hG ?_
      rotate_left
      · rintro W ⟨y, rfl⟩
        go_simp
        (try with_reducible rfl)
      simp only [Act.put, List.setIfInBounds_toArray, List.set_cons_zero, List.set_cons_succ]
      refine ord_take (v := ?_) 6 rfl rfl (by kernel_rfl) (by kernel_rfl) (fun _ _ _ h => h) (Or.inl ⟨by rfl, ?_⟩) hG ?_
      rotate_left
      · rintro W ⟨y, rfl⟩
        go_simp
        (try with_reducible rfl)
      simp only [Act.put, List.setIfInBounds_toArray, List.set_cons_zero, List.set_cons_succ]
      clear hG q15 q0 HSm
      refine ord_one 7 rfl (by kernel_rfl) rfl ?_
      intro K hK
      go_simp
      refine (HWz.out _).mono ?_; rintro e' w5 ⟨rfl, hb5⟩
      have B5 := btr (bdrew (Below.refl wo.heap.size wo)) hb5
      have hG : ∃ y : Grown wo, w5 = y.world := ⟨⟨w5, B5⟩, rfl⟩
      refine hK.out _ _ hG ?_
      clear hK K hb5
      try simp only
      refine ord_take (v := ?_) 8 rfl rfl (by kernel_rfl) (by kernel_rfl) (fun _ _ _ h => h) (Or.inl ⟨by rfl, ?_⟩) hG ?_
      rotate_left
      · rintro W ⟨y, rfl⟩
        go_simp
        (try with_reducible rfl)
      simp only [Act.put, List.setIfInBounds_toArray, List.set_cons_zero, List.set_cons_succ]
      refine ord_take (v := ?_) 9 rfl rfl (by kernel_rfl) (by kernel_rfl) (fun _ _ _ h => h) (Or.inl ⟨by rfl, ?_⟩) hG ?_
      rotate_left
      · rintro W ⟨y, rfl⟩
        go_simp
        (try with_reducible rfl)
      simp only [Act.put, List.setIfInBounds_toArray, List.set_cons_zero, List.set_cons_succ]
      refine ord_take (v := ?_) 10 rfl rfl (by kernel_rfl) (by kernel_rfl) (fun _ _ _ h => h) (Or.inl ⟨by rfl, ?_⟩) hG ?_
      rotate_left
      · rintro W ⟨y, rfl⟩
        go_simp
        (try with_reducible rfl)
      simp only [Act.put, List.setIfInBounds_toArray, List.set_cons_zero, List.set_cons_succ]
      refine ord_take (v := ?_) 11 rfl rfl (by kernel_rfl) (by kernel_rfl) (fun _ _ _ h => h) (Or.inl ⟨by rfl, ?_⟩) hG ?_
      rotate_left
      · rintro W ⟨y, rfl⟩
        go_simp
        (try with_reducible rfl)
      simp only [Act.put, List.setIfInBounds_toArray, List.set_cons_zero, List.set_cons_succ]
      refine ord_take (v := ?_) 12 rfl rfl (by kernel_rfl) (by kernel_rfl) (fun _ _ _ h => h) (Or.inl ⟨by rfl, ?_⟩) hG ?_
      rotate_left
      · rintro W ⟨y, rfl⟩
        go_simp
        (try with_reducible rfl)
      simp only [Act.put, List.setIfInBounds_toArray, List.set_cons_zero, List.set_cons_succ]
      clear hG
      refine ⟨by kernel_rfl, ?_⟩
      refine NoPanic.normal ?_
      replace Q := btr Q B5
      replace hS := hS.below B5
      replace hI := hI.below B5
      have hown5 := own_below hown B5
      have hb6 := btr hb B5
      clear hown HWz hb
      by_cases he : e = 0
      · subst he
        clear hk
        go_wp2_with (first
          | (at_builtin; refine wpList_app rfl _ _ 28 rfl w3.heap.size inT2 rfl (own_below hown5 (bal (Below.refl _ _) _)) (ints [v]) rfl (sl_newN _ (by simp) rfl) (oneCell_ints _) (by omega) (by have := hb6.size; simp; omega) ?_; intro A6 c6 w6 hown6 hg6 hat6)
          | fail)
        go_roundw
        case rel => exact ⟨k + 1, A6, c6, ws ++ [v], by omega, rfl, by go_num, grown_below (bal hb6 _) hg6 (own_below hown5 (bal (Below.refl _ _) _)), by rw [ints_app]; exact hown6, by
          have h1 : (wideM x.m x.da[k]).1 = v := by rw [← HZ.out, HVE.out]
          have h2 : (wideM x.m x.da[k]).2 = 0 := by rw [← HZ.out, HVE.out]
          exact ⟨by rw [wsL_take _ _ _ hkl, hws.out.1, h1], take_ok hkl hws.out.2 h2⟩⟩
        case measure => simp [intOf]; omega
      · have he' : (e != 0) = true := by simp [he]
        have HE := Lib.hid (show Y = (zeroI, e) by
          have h2 : (wideM x.m x.da[k]).2 = e := by rw [← HZ.out, HVE.out]
          have h3 := errW_at x.m x.da k hkl hws.out.2 (by rw [h2]; exact he)
          have h4 := HDE.out
          unfold dashedS at h4
          rw [h3, h2, if_pos he] at h4
          obtain ⟨h5, h6⟩ := Prod.mk.inj h4
          rw [HY5.out, ← h6, if_pos he])
        clear he hws HVE HZ
        have hFz := hI.putAll (itC zeroI (.slice none 0 0) (.slice none 0 0)) rfl
        have hFB := below_setCells HGI.out (itC zeroI (.slice none 0 0) (.slice none 0 0)) 0 _ Q
        go_wp2_with (first
          | (refine wpList_store_rec rfl _ _ _ rfl gI (itC zeroI (.slice none 0 0) (.slice none 0 0)) _ rfl rfl 21 itT hI rfl rfl zeroI_one ?_)
          | fail)
        refine bodyPost_ret (result_rec rfl rfl rfl itT hFz rfl) rfl ?_
        rw [HE.out]
        exact ⟨_, _, rfl, ⟨PathV.nil, ClV.nil⟩, hFB⟩
    · obtain rfl : k = nd := by omega
      have a16 := hS.c 16 _ rfl
      obtain ⟨⟨v, e⟩, hve⟩ : ∃ R, wideM x.m x.ph = R := ⟨_, rfl⟩
      have HWz := Lib.hid fun W => HW.out x.ph (v, e) W hve
      have hv0 := wideM_bd x.m x.ph
      rw [hve] at hv0
      simp only at hv0
      have hdt : x.da.take k = x.da := List.take_of_length_le (by rw [← HNQ.out]; omega)
      rw [hdt] at hws
      have HR2 := Lib.hid (show (if e ≠ 0 then (([] : List Sg), e) else cutZ ws v L) = (DL, de) by
        rw [← HDE.out, hws.out.1]
        unfold dashedS
        rw [errW_none _ _ hws.out.2, hve]
        simp)
      have HLW := Lib.hid (show LensW ws by rw [hws.out.1]; exact wsL_ok _ (by rw [← HNQ.out]; omega))
      clear hve hdt hws
      go_wp2_with (first
        | (refine wpList_load_stm rfl _ _ rfl gS rfl x _ _ _ matT hS ?_)
        | fail)
      refine (HWz.out _).mono ?_; rintro e' w5 ⟨rfl, b5⟩
      replace Q := btr Q b5
      replace hS := hS.below b5
      replace hI := hI.below b5
      have hown5 := own_below hown b5
      have ho5 := own_below ho4 b5
      clear a15 a16 HWz hown hb b5 ho4
      by_cases he : e = 0
      · subst he
        have HR3 := Lib.hid (show cutZ ws v L = (DL, de) by have := HR2.out; simpa using this)
        have HLT2 := Lib.hid hI.lt
        clear HR2
        go_wp2_with fail
        refine (ref_cutZ_any A2 A' nL c2 k c' L ws v DL de nD _ (own_sl ho5) HOK.out.1 HOK.out.2 (own_sl hown5) hd1 HLW.out (by omega) HR3.out HND2.out).mono ?_; rintro e' w6 ⟨A6, c6, rfl, ho6, b6⟩
        replace Q := btr Q b6
        replace hS := hS.below b6
        replace hI := hI.below b6
        clear b6 hown5 HLW HR3
        by_cases he0 : de = 0
        case neg =>
          have HE := Lib.hid (show Y = (zeroI, de) by rw [HY5.out, if_pos he0])
          have he0' : (de != 0) = true := by simp [he0]
          clear he0 HY5
          have hFz := hI.putAll (itC zeroI (.slice none 0 0) (.slice none 0 0)) rfl
          have hFB := below_setCells HGI.out (itC zeroI (.slice none 0 0) (.slice none 0 0)) 0 _ Q
          go_wp2_with (first
            | (refine wpList_store_rec rfl _ _ _ rfl gI (itC zeroI (.slice none 0 0) (.slice none 0 0)) _ rfl rfl 21 itT hI rfl rfl zeroI_one ?_)
            | fail)
          refine bodyPost_ret (result_rec rfl rfl rfl itT hFz rfl) rfl ?_
          rw [HE.out]
          exact ⟨_, _, rfl, ⟨PathV.nil, ClV.nil⟩, hFB⟩
        have HYE := Lib.hid (show Y = (hemI x DL wd, 0) by rw [HY5.out, if_neg (by simpa using he0)])
        have he0' : (de != 0) = false := by simp [he0]
        have HLN := HND2
        clear he0 HY5
        have a7 := hS.c 7 _ rfl
        have a8 := hS.c 8 _ rfl
        have a9 := hS.c 9 _ rfl
        have a10 := hS.c 10 _ rfl
        have a11 := hS.c 11 _ rfl
        have a13 := hS.c 13 _ rfl
        have a14 := hS.c 14 _ rfl
        have hFz := hI.putAll (itC (hemI x DL wd) (.slice A6 nD c6) (.slice Ac nc cc)) rfl
        have hFB := below_setCells HGI.out (itC (hemI x DL wd) (.slice A6 nD c6) (.slice Ac nc cc)) 0 _ Q
        have hoF := own_setCells HLT2.out (itC (hemI x DL wd) (.slice A6 nD c6) (.slice Ac nc cc)) 0 _ ho6
        go_wp2_with (first
          | (refine wpList_store_rec rfl _ _ _ rfl gI (itC (hemI x DL wd) (.slice A6 nD c6) (.slice Ac nc cc)) _ rfl rfl 21 itT hI rfl rfl (hemI_one rfl rfl) ?_)
          | fail)
        refine bodyPost_ret (result_rec rfl rfl rfl itT hFz rfl) rfl ?_
        rw [HYE.out]
        obtain rfl := HLN.out
        exact ⟨_, _, rfl, ⟨own_pathV hoF, HCV.out.below hFB⟩, hFB⟩
      · have he' : (e != 0) = true := by simp [he]
        have HE := Lib.hid (show Y = (zeroI, e) by
          have h4 := HR2.out
          rw [if_pos he] at h4
          obtain ⟨h5, h6⟩ := Prod.mk.inj h4
          rw [HY5.out, ← h6, if_pos he])
        clear he HR2
        have hFz := hI.putAll (itC zeroI (.slice none 0 0) (.slice none 0 0)) rfl
        have hFB := below_setCells HGI.out (itC zeroI (.slice none 0 0) (.slice none 0 0)) 0 _ Q
        go_wp2_with (first
          | (refine wpList_store_rec rfl _ _ _ rfl gI (itC zeroI (.slice none 0 0) (.slice none 0 0)) _ rfl rfl 21 itT hI rfl rfl zeroI_one ?_)
          | fail)
        refine bodyPost_ret (result_rec rfl rfl rfl itT hFz rfl) rfl ?_
        rw [HE.out]
        exact ⟨_, _, rfl, ⟨PathV.nil, ClV.nil⟩, hFB⟩
end Go.Proofs.YtdfkbbcoolgfiaaGreat
