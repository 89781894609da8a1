/- tympanref42: Letters. -/
import Derived.Test.YtdfkbbcoolgfiaaGreatStLet
import Derived.Test.YtdfkbbcoolgfiaaGreatMBk
import Derived.Test.YtdfkbbcoolgfiaaGreatFRef5
namespace Go.Proofs.YtdfkbbcoolgfiaaGreat
open Go.RowKit Go.Maps Go.BigFrame

theorem yieldsIf_foM {P : Program} {ops : Array Oper} {S : World → Prop} {op : Oper} {a : Act} (hw : Region.wanted op (yielded ops a.tmps) = true) (t : TypeId) (x : Operand) (ho : op.op = .load t x)
    (g : Nat) (hx : a.eval x = .pointer (some ⟨g, 0, none⟩)) (m : Mt) (N L K : Value) (hT : RecT P t 6) (hS : ∀ W, S W → BC W g (foC m N L K)) : YieldsIf P ops S op (.agg (mtC m).toArray) a := by
  obtain ⟨d, hu, hd, hi⟩ := hT
  exact yieldsIf_load_mid hw t x ho g 0 hx (mtC m) d (fun W hW => foM_range (hS W hW)) hu hd (by rw [hi]; rfl)
theorem sl_farC {w : World} {s n base g : Nat} {A : Option Addr} {xs : List Value} (h : Sl w s A n xs) (hf : FreshA base A n) (hg : g < base) (o : Nat) (vs : List Value) : Sl (w.setCells g o vs) s A n xs :=
  ⟨h.1, fun hn => by
    obtain ⟨b, off, e, hlt, hc⟩ := h.2 hn
    obtain ⟨b', off', e', hb⟩ := hf hn
    rw [e] at e'
    simp only [Option.some.injEq, Addr.mk.injEq, and_true] at e'
    obtain ⟨rfl, rfl⟩ := e'
    refine ⟨b, off, e, by rw [setCells_size]; exact hlt, fun j u hu => ?_⟩
    rw [World.cell?_setCells_out g vs o w _ (fun e _ => absurd e (by show b ≠ g; omega))]
    exact hc j u hu⟩
theorem pathV_at {w : World} {A : Option Addr} {n c : Nat} {l : List Sg} (hn : n = l.length) (hs : Sl w 5 A n (sgs l)) (h1 : n ≤ c) (h2 : c ≤ 9223372036854775807) : PathV w (.slice A n c) l := by
  subst hn; exact ⟨A, c, rfl, hs, h1, h2⟩
set_option maxRecDepth 100000 in
set_option maxHeartbeats 4000000 in
theorem rLetters_any (x : St) (P C D : Value) (F : Fo) (Cf : List Value) (s : ByteArray) (Y : (It × Int × Int) × Int) (w : World) (h : StAt w x P C D) (hf : stFew x) (hFo : FoAt w F Cf) (hsz : s.size ≤ 1000000) (hY : lettersS x F (bl s) = Y) :
    Calls Tryz.prog 20 #[.agg (stC x P C D).toArray, .agg Cf.toArray, .string s] w fun r w' => ∃ P' C', r = .returned (.tuple #[.agg (itC Y.1.1 P' C').toArray, .int .i64 Y.1.2.1, .int .i64 Y.1.2.2, .int .i64 Y.2]) ∧ ItAt w' Y.1.1 P' C' ∧ Below w.heap.size w w' := by
  obtain ⟨N, L, K0, rfl⟩ := (show ∃ N L K, Cf = foC F.m N L K by obtain ⟨_, _, _, _, _, _, _, rfl, _⟩ := hFo; exact ⟨_, _, _, rfl⟩)
  obtain ⟨Ac, cc, rfl, hcl, hcc, hcm⟩ := h.c.sl
  obtain ⟨nc, hnc⟩ : ∃ n, n = x.cl.length := ⟨_, rfl⟩
  rw [← hnc] at h hcc ⊢
  have HCV := Lib.hid h.c
  obtain ⟨w0, hw0⟩ : ∃ w0 : World, w0 = ((w.alloc (.cells (stC x P (.slice Ac nc cc) D).toArray 32)).alloc (.cells (foC F.m N L K0).toArray 56)).alloc (.cells (itC zeroI (.slice none 0 0) (.slice none 0 0)).toArray 40) := ⟨_, rfl⟩
  have Q : Below w.heap.size w w0 := by rw [hw0]; exact bal (bal (bal (Below.refl _ _) _) _) _
  have hS : BC w0 w.heap.size (stC x P (.slice Ac nc cc) D) := by rw [hw0]; exact (BC.new (stC x P (.slice Ac nc cc) D) 32 rfl).below (bal (bal (Below.refl _ _) _) _)
  have hF : BC w0 (w.heap.size + 1) (foC F.m N L K0) := by rw [hw0]; exact (BC.new (w := w.alloc _) (foC F.m N L K0) 56 (by simp)).below (bal (Below.refl _ _) _)
  have hI : BC w0 (w.heap.size + 1 + 1) (itC zeroI (.slice none 0 0) (.slice none 0 0)) := by rw [hw0]; exact BC.new (w := (w.alloc _).alloc _) _ 40 (by simp)
  obtain ⟨gI, hgI⟩ : ∃ g, g = w.heap.size + 1 + 1 := ⟨_, rfl⟩
  obtain ⟨gF, hgF⟩ : ∃ g, g = w.heap.size + 1 := ⟨_, rfl⟩
  obtain ⟨gS, hgS⟩ : ∃ g, g = w.heap.size := ⟨_, rfl⟩
  have HGI : Hid (w.heap.size ≤ gI) := Lib.hid (by omega)
  have HGF : Hid (w.heap.size ≤ gF) := Lib.hid (by omega)
  have HNE : Hid (gS ≠ gF ∧ gI ≠ gF) := Lib.hid (by omega)
  have E1 := Lib.hid hgI
  have E2 := Lib.hid hgF
  have E3 := Lib.hid hgS
  rw [← hgI] at hI
  rw [← hgF] at hF
  rw [← hgS] at hS
  rw [zeroI_lit] at hw0
  obtain ⟨⟨hx, hy, he⟩, hH⟩ : ∃ R, hereS x = R := ⟨_, rfl⟩
  obtain ⟨SM, hSM⟩ : ∃ M, sizeM x.sz x.sz = M := ⟨_, rfl⟩
  obtain ⟨⟨M1, e1⟩, hM1⟩ : ∃ R, mulB F.m SM = R := ⟨_, rfl⟩
  obtain ⟨F', hF'⟩ : ∃ F' : Fo, { F with m := M1 } = F' := ⟨_, rfl⟩
  obtain ⟨⟨⟨O, xR, yR⟩, oe⟩, hO⟩ : ∃ R, outF F' x.m hx hy (bl s) = R := ⟨_, rfl⟩
  have HY := Lib.hid (show Y = if (mayS x && openB F) = false then noL 1 else if he ≠ 0 then noL he else if e1 ≠ 0 then noL e1 else if oe ≠ 0 then noL oe else ((hemL x O, xR, yR), 0) by
    rw [← hY]; unfold lettersS; rw [hH, hSM, hM1]; simp only [hF', hO])
  have HM := Lib.hid fun W (hq : Below w.heap.size w W) => rStMay_any x P (.slice Ac nc cc) D W (h.below hq) hf
  have HFM := Lib.hid fun W (hq : Below w.heap.size w W) => rFontMay_any F _ W (hFo.below hq)
  have HHE := Lib.hid fun W (hq : Below w.heap.size w W) => rHere_any x P (.slice Ac nc cc) D (hx, hy, he) W (h.below hq) hf hH
  have HSI := Lib.hid fun W => (show Calls Tryz.prog 52 #[.int .i64 x.sz, .int .i64 x.sz] W fun e w' => e = .returned (mtv SM) ∧ Below W.heap.size W w' by rw [← hSM]; exact rSize_any x.sz x.sz W)
  have HMU := Lib.hid fun W => rMul_any F.m SM (M1, e1) W hM1
  have HO := Lib.hid fun W (hq : Below w.heap.size w W) => rOutline_core F' (foC M1 N L K0) x.m hx hy s ((O, xR, yR), oe) W hsz (by rw [← hF']; exact (hFo.setM M1).below hq) hO
  unfold vP at HHE
  simp only [vm] at HSI HMU HO
  clear hY h hf hFo hsz hH hSM hM1 hF' hO hnc hcl hgI hgF hgS
  go_enter Tryz.func20, Tryz.ntmps20
  go_upto_region 1 with (fail)
  rw [← hw0, ← E1.out, ← E2.out, ← E3.out]
  clear hw0 E1 E2 E3
  go_wp2_with (first
    | (refine wpList_load_rec rfl _ _ rfl gS rfl _ 24 stateT hS rfl ?_)
    | fail)
  refine (HM.out _ Q).mono ?_; rintro e w1 ⟨rfl, b1⟩
  replace Q := btr Q b1
  replace hS := hS.below b1
  replace hF := hF.below b1
  replace hI := hI.below b1
  clear b1 HM
  cases hm : mayS x
  · have HE := Lib.hid (show Y = noL 1 by rw [HY.out, hm]; rfl)
    clear hm HY
    have hFz := hI.putAll (itC zeroI (.slice none 0 0) (.slice none 0 0)) rfl
    have hFB := below_setCells HGI.out (itC zeroI (.slice none 0 0) (.slice none 0 0)) 0 _ Q
    go_wp2_with (first
      | (refine wpList_store_rec rfl _ _ _ rfl gI (itC zeroI (.slice none 0 0) (.slice none 0 0)) _ rfl rfl 21 itT hI rfl rfl zeroI_one ?_)
      | fail)
    refine bodyPost_ret (result_rec4 rfl rfl rfl rfl rfl itT hFz rfl) rfl ?_
    rw [HE.out]
    exact ⟨_, _, rfl, zeroI_at _, hFB⟩
  go_wp2_with (first
    | (refine wpList_load_rec_g (by kernel_rfl) _ _ rfl gF rfl _ 9 foT hF rfl ?_)
    | fail)
  refine (HFM.out _ Q).mono ?_; rintro e w2 ⟨rfl, b1⟩
  replace Q := btr Q b1
  replace hS := hS.below b1
  replace hF := hF.below b1
  replace hI := hI.below b1
  clear b1 HFM
  cases ho : openB F
  · have HE := Lib.hid (show Y = noL 1 by rw [HY.out, hm, ho]; rfl)
    clear hm ho HY
    have hFz := hI.putAll (itC zeroI (.slice none 0 0) (.slice none 0 0)) rfl
    have hFB := below_setCells HGI.out (itC zeroI (.slice none 0 0) (.slice none 0 0)) 0 _ Q
    go_wp2_with (first
      | (refine wpList_store_rec rfl _ _ _ rfl gI (itC zeroI (.slice none 0 0) (.slice none 0 0)) _ rfl rfl 21 itT hI rfl rfl zeroI_one ?_)
      | fail)
    refine bodyPost_ret (result_rec4 rfl rfl rfl rfl rfl itT hFz rfl) rfl ?_
    rw [HE.out]
    exact ⟨_, _, rfl, zeroI_at _, hFB⟩
  have HY2 := Lib.hid (show Y = if he ≠ 0 then noL he else if e1 ≠ 0 then noL e1 else if oe ≠ 0 then noL oe else ((hemL x O, xR, yR), 0) by rw [HY.out, hm, ho]; rfl)
  clear hm ho HY
  go_wp2_with (first
    | (refine wpList_load_rec rfl _ _ rfl gS rfl _ 24 stateT hS rfl ?_)
    | fail)
  refine (HHE.out _ Q).mono ?_; rintro e w4 ⟨rfl, b1⟩
  replace Q := btr Q b1
  replace hS := hS.below b1
  replace hF := hF.below b1
  replace hI := hI.below b1
  clear b1 HHE
  by_cases hhe : he = 0
  case neg =>
    have HE := Lib.hid (show Y = noL he by rw [HY2.out, if_pos hhe])
    have hhe' : (he != 0) = true := by simp [hhe]
    clear hhe HY2
    have hFz := hI.putAll (itC zeroI (.slice none 0 0) (.slice none 0 0)) rfl
    have hFB := below_setCells HGI.out (itC zeroI (.slice none 0 0) (.slice none 0 0)) 0 _ Q
    go_wp2_with (first
      | (refine wpList_store_rec rfl _ _ _ rfl gI (itC zeroI (.slice none 0 0) (.slice none 0 0)) _ rfl rfl 21 itT hI rfl rfl zeroI_one ?_)
      | fail)
    refine bodyPost_ret (result_rec4 rfl rfl rfl rfl rfl itT hFz rfl) rfl ?_
    rw [HE.out]
    exact ⟨_, _, rfl, zeroI_at _, hFB⟩
  have HY3 := Lib.hid (show Y = if e1 ≠ 0 then noL e1 else if oe ≠ 0 then noL oe else ((hemL x O, xR, yR), 0) by rw [HY2.out, if_neg (by simpa using hhe)])
  have hhe' : (he != 0) = false := by simp [hhe]
  clear hhe HY2
  go_upto_region 6 with (fail)
  have a23 := fun q : Grown w4 => q.cell (hS.c 23 _ rfl) hS.lt
  have HFm := Lib.hid fun (V : World) (hV : ∃ y : Grown w4, V = y.world) => (show BC V gF (foC F.m N L K0) by obtain ⟨y, rfl⟩ := hV; exact hF.below y.below)
  have HG := Lib.hid (fun (W : World) (hW : Below w4.heap.size w4 W) => (⟨⟨W, hW⟩, rfl⟩ : ∃ y : Grown w4, W = y.world))
  obtain ⟨wn, hwn⟩ : ∃ W, W = w4.drew := ⟨_, rfl⟩
  have HB : Below w4.heap.size w4 wn := by rw [hwn]; exact bdrew (Below.refl _ _)
  refine wp_region_ord (fun W => ∃ y : Grown w4, W = y.world) [] 14 (by kernel_rfl) (by kernel_rfl) ⟨⟨_, bdrew (Below.refl _ _)⟩, rfl⟩ ?_
  intro hG
  refine ord_take (v := ?_) 0 rfl rfl (by kernel_rfl) (by kernel_rfl) (fun _ _ _ h => h) (Or.inl ⟨by rfl, ?_⟩) hG ?_
  rotate_left
  · rintro W ⟨y, rfl⟩
    go_simp
    (try with_reducible rfl)
  simp only [Act.put, List.setIfInBounds_toArray, List.set_cons_zero, List.set_cons_succ]
  refine ord_take 1 rfl rfl (by kernel_rfl) (by kernel_rfl) (fun _ _ _ h => h) (yieldsIf_foM (by rfl) _ _ rfl gF rfl F.m N L K0 matT2 HFm.out) hG ?_
  simp only [Act.put, List.setIfInBounds_toArray, List.set_cons_zero, List.set_cons_succ]
  refine ord_take (v := ?_) 2 rfl rfl (by kernel_rfl) (by kernel_rfl) (fun _ _ _ h => h) (Or.inl ⟨by rfl, ?_⟩) hG ?_
  rotate_left
  · rintro W ⟨y, rfl⟩
    go_simp
    (try with_reducible rfl)
  simp only [Act.put, List.setIfInBounds_toArray, List.set_cons_zero, List.set_cons_succ]
  refine ord_take (v := ?_) 3 rfl rfl (by kernel_rfl) (by kernel_rfl) (fun _ _ _ h => h) (Or.inl ⟨by rfl, ?_⟩) hG ?_
  rotate_left
  · rintro W ⟨y, rfl⟩
    go_simp
    (try with_reducible rfl)
  simp only [Act.put, List.setIfInBounds_toArray, List.set_cons_zero, List.set_cons_succ]
  refine ord_take (v := ?_) 4 rfl rfl (by kernel_rfl) (by kernel_rfl) (fun _ _ _ h => h) (Or.inl ⟨by rfl, ?_⟩) hG ?_
  rotate_left
  · rintro W ⟨y, rfl⟩
    go_simp
    (try with_reducible rfl)
  simp only [Act.put, List.setIfInBounds_toArray, List.set_cons_zero, List.set_cons_succ]
  refine ord_take (v := ?_) 5 rfl rfl (by kernel_rfl) (by kernel_rfl) (fun _ _ _ h => h) (Or.inl ⟨by rfl, ?_⟩) hG ?_
  rotate_left
  · rintro W ⟨y, rfl⟩
    go_simp
    (try with_reducible rfl)
  simp only [Act.put, List.setIfInBounds_toArray, List.set_cons_zero, List.set_cons_succ]
  rw [← hwn] at hG ⊢
  clear hwn HFm a23
  refine ord_two 6 11 rfl rfl (by kernel_rfl) rfl rfl ?_ ?_
  · intro K hK
    go_simp
    refine (HSI.out _).mono ?_; rintro e wn ⟨rfl, hbn⟩
    have Hn := btr HB hbn
    refine hK.out _ _ (HG.out _ Hn) ?_
    clear hK K HB
    have HB := Hn
    clear Hn
    try simp only
    have hG := HG.out _ HB
    refine ord_two 7 11 rfl rfl (by kernel_rfl) rfl rfl ?_ ?_
    · intro K hK
      go_simp
      refine (HMU.out _).mono ?_; rintro e wn ⟨rfl, hbn⟩
      have Hn := btr HB hbn
      refine hK.out _ _ (HG.out _ Hn) ?_
      clear hK K HB
      have HB := Hn
      clear Hn
      try simp only
      have hG := HG.out _ HB
      refine ord_take (v := ?_) 8 rfl rfl (by kernel_rfl) (by kernel_rfl) (fun _ _ _ h => h) (Or.inl ⟨by rfl, ?_⟩) hG ?_
      rotate_left
      · rintro W ⟨y, rfl⟩
        go_simp
        (try with_reducible rfl)
      simp only [Act.put, List.setIfInBounds_toArray, List.set_cons_zero, List.set_cons_succ]
      refine ord_take (v := ?_) 9 rfl rfl (by kernel_rfl) (by kernel_rfl) (fun _ _ _ h => h) (Or.inl ⟨by rfl, ?_⟩) hG ?_
      rotate_left
      · rintro W ⟨y, rfl⟩
        go_simp
        (try with_reducible rfl)
      simp only [Act.put, List.setIfInBounds_toArray, List.set_cons_zero, List.set_cons_succ]
      refine ord_take (v := ?_) 10 rfl rfl (by kernel_rfl) (by kernel_rfl) (fun _ _ _ h => h) (Or.inl ⟨by rfl, ?_⟩) hG ?_
      rotate_left
      · rintro W ⟨y, rfl⟩
        go_simp
        (try with_reducible rfl)
      simp only [Act.put, List.setIfInBounds_toArray, List.set_cons_zero, List.set_cons_succ]
      refine ord_one 11 rfl (by kernel_rfl) rfl ?_
      intro K hK
      go_simp
      obtain ⟨wm, hwm⟩ : ∃ W, W = wn.alloc (.cells #[.int .i64 0, .int .i64 0, .int .i64 0, .int .i64 0, .int .i64 0, .int .i64 0] 23) := ⟨_, rfl⟩
      have HZ : BC wm wn.heap.size (mtC zeroM) := by rw [hwm]; exact BC.new (mtC zeroM) 23 rfl
      have Hn : Below w4.heap.size w4 wm := by rw [hwm]; exact bal HB _
      have hgm := HB.size
      obtain ⟨gM, hgM⟩ : ∃ g, g = wn.heap.size := ⟨_, rfl⟩
      rw [← hwm, ← hgM]
      rw [← hgM] at HZ hgm
      refine hK.out _ _ (HG.out _ Hn) ?_
      clear hK K HB hwm hgM
      obtain ⟨wn, hwn⟩ : ∃ W, W = wm := ⟨_, rfl⟩
      rw [← hwn] at Hn HZ ⊢
      have HB := Hn
      clear Hn hwn
      try simp only
      have hG := HG.out _ HB
      clear hG
      refine ord_one 12 rfl (by kernel_rfl) rfl ?_
      intro K hK
      rw [if_pos (by rfl)]
      refine wp_store_mid 23 _ _ rfl gM 0 (mtC M1).toArray rfl rfl HZ.there (by kernel_rfl) (all_oneCell_toArray (mtC_oneR M1)) ?_
      refine hK.out _ _ (HG.out _ (below_setCells hgm _ _ _ HB)) ?_
      clear hK K
      try simp only
      obtain ⟨w5, hw5⟩ : ∃ W, W = wn.setCells gM 0 (mtC M1) := ⟨_, rfl⟩
      have Q5 : Below w4.heap.size w4 w5 := by rw [hw5]; exact below_setCells hgm _ _ _ HB
      have hM5 : BC w5 gM (mtC M1) := by rw [hw5]; exact HZ.putAll _ rfl
      have hw5' : wn.setCells gM 0 (mtC M1).toArray.toList = w5 := hw5.symm
      rw [hw5']
      have hG := HG.out _ Q5
      refine ord_take (v := ?_) 13 rfl rfl (by kernel_rfl) (by kernel_rfl) (fun _ _ _ h => h) (Or.inl ⟨by rfl, ?_⟩) hG ?_
      rotate_left
      · rintro W ⟨y, rfl⟩
        go_simp
        (try with_reducible rfl)
      simp only [Act.put, List.setIfInBounds_toArray, List.set_cons_zero, List.set_cons_succ]
      clear hG
      refine ⟨by kernel_rfl, ?_⟩
      refine NoPanic.normal ?_
      clear hw5 hw5' HZ HB HG HSI HMU
      replace Q := btr Q Q5
      replace hS := hS.below Q5
      replace hF := hF.below Q5
      replace hI := hI.below Q5
      by_cases he1 : e1 = 0
      case neg =>
        have HE := Lib.hid (show Y = noL e1 by rw [HY3.out, if_pos he1])
        have he1' : (e1 != 0) = true := by simp [he1]
        clear he1 HY3
        have hFz := hI.putAll (itC zeroI (.slice none 0 0) (.slice none 0 0)) rfl
        have hFB := below_setCells HGI.out (itC zeroI (.slice none 0 0) (.slice none 0 0)) 0 _ Q
        go_wp2_with (first
          | (refine wpList_store_rec rfl _ _ _ rfl gI (itC zeroI (.slice none 0 0) (.slice none 0 0)) _ rfl rfl 21 itT hI rfl rfl zeroI_one ?_)
          | fail)
        refine bodyPost_ret (result_rec4 rfl rfl rfl rfl rfl itT hFz rfl) rfl ?_
        rw [HE.out]
        exact ⟨_, _, rfl, zeroI_at _, hFB⟩
      have HY4 := Lib.hid (show Y = if oe ≠ 0 then noL oe else ((hemL x O, xR, yR), 0) by rw [HY3.out, if_neg (by simpa using he1)])
      have he1' : (e1 != 0) = false := by simp [he1]
      clear he1 HY3
      obtain ⟨w7, hw7⟩ : ∃ W, W = w5.setCells gF 0 (mtC M1) := ⟨_, rfl⟩
      have HW7 := Lib.hid hw7
      have Q6 := Q
      have hF6 := hF
      replace Q : Below w.heap.size w w7 := by rw [hw7]; exact below_setCells HGF.out _ _ _ Q6
      replace hS : BC w7 gS (stC x P (.slice Ac nc cc) D) := by rw [hw7]; exact hS.apart HNE.out.1 0 _
      replace hI : BC w7 gI (itC zeroI (.slice none 0 0) (.slice none 0 0)) := by rw [hw7]; exact hI.apart HNE.out.2 0 _
      replace hF : BC w7 gF (foC M1 N L K0) := by rw [hw7]; exact hF6.putMF M1
      clear hw7 Q6
      go_wp2_with (first
        | (refine wpList_store_foM rfl _ _ _ rfl gF rfl M1 rfl F.m N L K0 matT2 hF6 ?_; rw [← HW7.out])
        | (refine wpList_load_rec rfl _ _ rfl gM rfl _ 6 matT2 hM5 rfl ?_)
        | (refine wpList_load_rec rfl _ _ rfl gF rfl _ 9 foT hF rfl ?_)
        | (refine wpList_load_stM rfl _ _ rfl gS rfl x _ _ _ matT2 hS ?_)
        | fail)
      have hgl := hI.lt
      refine (HO.out _ Q).mono ?_; rintro e w8 ⟨b1, A8, c8, rfl, hs8, hnc8, hfr8, hcm8⟩
      replace Q := btr Q b1
      replace hS := hS.below b1
      replace hF := hF.below b1
      replace hI := hI.below b1
      by_cases hoe : oe = 0
      case neg =>
        have HE := Lib.hid (show Y = noL oe by rw [HY4.out, if_pos hoe])
        have hoe' : (oe != 0) = true := by simp [hoe]
        clear hoe HY4
        have hFz := hI.putAll (itC zeroI (.slice none 0 0) (.slice none 0 0)) rfl
        have hFB := below_setCells HGI.out (itC zeroI (.slice none 0 0) (.slice none 0 0)) 0 _ Q
        go_wp2_with (first
          | (refine wpList_store_rec rfl _ _ _ rfl gI (itC zeroI (.slice none 0 0) (.slice none 0 0)) _ rfl rfl 21 itT hI rfl rfl zeroI_one ?_)
          | fail)
        refine bodyPost_ret (result_rec4 rfl rfl rfl rfl rfl itT hFz rfl) rfl ?_
        rw [HE.out]
        exact ⟨_, _, rfl, zeroI_at _, hFB⟩
      have HY5 := Lib.hid (show Y = ((hemL x O, xR, yR), 0) by rw [HY4.out, if_neg (by simpa using hoe)])
      have hoe' : (oe != 0) = false := by simp [hoe]
      clear hoe HY4
      simp only at hs8 hnc8 hfr8
      obtain ⟨nO, hnO⟩ : ∃ n, n = O.length := ⟨_, rfl⟩
      rw [← hnO] at hs8 hnc8 hfr8
      have HNO := Lib.hid hnO
      go_upto_region 13 with (fail)
      rw [← hnO]
      clear hnO
      have a7 := hS.c 7 _ rfl
      have a8 := hS.c 8 _ rfl
      have a9 := hS.c 9 _ rfl
      have a10 := hS.c 10 _ rfl
      have a11 := hS.c 11 _ rfl
      have hFz := hI.putAll (itC (hemL x O) (.slice A8 nO c8) (.slice Ac nc cc)) rfl
      have hFB := below_setCells HGI.out (itC (hemL x O) (.slice A8 nO c8) (.slice Ac nc cc)) 0 _ Q
      have honeF : ∀ v ∈ itC (hemL x O) (.slice A8 nO c8) (.slice Ac nc cc), v.oneCell' = true := hemL_one rfl rfl
      go_wp2_with (first
        | (refine wpList_store_rec rfl _ _ _ rfl gI (itC (hemL x O) (.slice A8 nO c8) (.slice Ac nc cc)) _ rfl rfl 21 itT hI rfl rfl honeF ?_)
        | fail)
      refine bodyPost_ret (result_rec4 rfl rfl rfl rfl rfl itT hFz rfl) rfl ?_
      rw [HY5.out]
      exact ⟨_, _, rfl, ⟨pathV_at HNO.out (sl_farC hs8 hfr8 hgl 0 _) hnc8 hcm8, HCV.out.below hFB⟩, hFB⟩
    · intro K hK
      go_simp
      obtain ⟨wm, hwm⟩ : ∃ W, W = wn.alloc (.cells #[.int .i64 0, .int .i64 0, .int .i64 0, .int .i64 0, .int .i64 0, .int .i64 0] 23) := ⟨_, rfl⟩
      have HZ : BC wm wn.heap.size (mtC zeroM) := by rw [hwm]; exact BC.new (mtC zeroM) 23 rfl
      have Hn : Below w4.heap.size w4 wm := by rw [hwm]; exact bal HB _
      have hgm := HB.size
      obtain ⟨gM, hgM⟩ : ∃ g, g = wn.heap.size := ⟨_, rfl⟩
      rw [← hwm, ← hgM]
      rw [← hgM] at HZ hgm
      refine hK.out _ _ (HG.out _ Hn) ?_
      clear hK K HB hwm hgM
      obtain ⟨wn, hwn⟩ : ∃ W, W = wm := ⟨_, rfl⟩
      rw [← hwn] at Hn HZ ⊢
      have HB := Hn
      clear Hn hwn
      try simp only
      have hG := HG.out _ HB
      refine ord_one 7 rfl (by kernel_rfl) rfl ?_
      intro K hK
      go_simp
      refine (HMU.out _).mono ?_; rintro e wn ⟨rfl, hbn⟩
      have Hn := btr HB hbn
      refine hK.out _ _ (HG.out _ Hn) ?_
      clear hK K HB
      have HB := Hn
      clear Hn
      try simp only
      have hG := HG.out _ HB
      replace HZ := HZ.below hbn
      refine ord_take (v := ?_) 8 rfl rfl (by kernel_rfl) (by kernel_rfl) (fun _ _ _ h => h) (Or.inl ⟨by rfl, ?_⟩) hG ?_
      rotate_left
      · rintro W ⟨y, rfl⟩
        go_simp
        (try with_reducible rfl)
      simp only [Act.put, List.setIfInBounds_toArray, List.set_cons_zero, List.set_cons_succ]
      refine ord_take (v := ?_) 9 rfl rfl (by kernel_rfl) (by kernel_rfl) (fun _ _ _ h => h) (Or.inl ⟨by rfl, ?_⟩) hG ?_
      rotate_left
      · rintro W ⟨y, rfl⟩
        go_simp
        (try with_reducible rfl)
      simp only [Act.put, List.setIfInBounds_toArray, List.set_cons_zero, List.set_cons_succ]
      refine ord_take (v := ?_) 10 rfl rfl (by kernel_rfl) (by kernel_rfl) (fun _ _ _ h => h) (Or.inl ⟨by rfl, ?_⟩) hG ?_
      rotate_left
      · rintro W ⟨y, rfl⟩
        go_simp
        (try with_reducible rfl)
      simp only [Act.put, List.setIfInBounds_toArray, List.set_cons_zero, List.set_cons_succ]
      clear hG
      refine ord_one 12 rfl (by kernel_rfl) rfl ?_
      intro K hK
      rw [if_pos (by rfl)]
      refine wp_store_mid 23 _ _ rfl gM 0 (mtC M1).toArray rfl rfl HZ.there (by kernel_rfl) (all_oneCell_toArray (mtC_oneR M1)) ?_
      refine hK.out _ _ (HG.out _ (below_setCells hgm _ _ _ HB)) ?_
      clear hK K
      try simp only
      obtain ⟨w5, hw5⟩ : ∃ W, W = wn.setCells gM 0 (mtC M1) := ⟨_, rfl⟩
      have Q5 : Below w4.heap.size w4 w5 := by rw [hw5]; exact below_setCells hgm _ _ _ HB
      have hM5 : BC w5 gM (mtC M1) := by rw [hw5]; exact HZ.putAll _ rfl
      have hw5' : wn.setCells gM 0 (mtC M1).toArray.toList = w5 := hw5.symm
      rw [hw5']
      have hG := HG.out _ Q5
      refine ord_take (v := ?_) 13 rfl rfl (by kernel_rfl) (by kernel_rfl) (fun _ _ _ h => h) (Or.inl ⟨by rfl, ?_⟩) hG ?_
      rotate_left
      · rintro W ⟨y, rfl⟩
        go_simp
        (try with_reducible rfl)
      simp only [Act.put, List.setIfInBounds_toArray, List.set_cons_zero, List.set_cons_succ]
      clear hG
      refine ⟨by kernel_rfl, ?_⟩
      refine NoPanic.normal ?_
      clear hw5 hw5' HZ HB HG HSI HMU
      replace Q := btr Q Q5
      replace hS := hS.below Q5
      replace hF := hF.below Q5
      replace hI := hI.below Q5
      by_cases he1 : e1 = 0
      case neg =>
        have HE := Lib.hid (show Y = noL e1 by rw [HY3.out, if_pos he1])
        have he1' : (e1 != 0) = true := by simp [he1]
        clear he1 HY3
        have hFz := hI.putAll (itC zeroI (.slice none 0 0) (.slice none 0 0)) rfl
        have hFB := below_setCells HGI.out (itC zeroI (.slice none 0 0) (.slice none 0 0)) 0 _ Q
        go_wp2_with (first
          | (refine wpList_store_rec rfl _ _ _ rfl gI (itC zeroI (.slice none 0 0) (.slice none 0 0)) _ rfl rfl 21 itT hI rfl rfl zeroI_one ?_)
          | fail)
        refine bodyPost_ret (result_rec4 rfl rfl rfl rfl rfl itT hFz rfl) rfl ?_
        rw [HE.out]
        exact ⟨_, _, rfl, zeroI_at _, hFB⟩
      have HY4 := Lib.hid (show Y = if oe ≠ 0 then noL oe else ((hemL x O, xR, yR), 0) by rw [HY3.out, if_neg (by simpa using he1)])
      have he1' : (e1 != 0) = false := by simp [he1]
      clear he1 HY3
      obtain ⟨w7, hw7⟩ : ∃ W, W = w5.setCells gF 0 (mtC M1) := ⟨_, rfl⟩
      have HW7 := Lib.hid hw7
      have Q6 := Q
      have hF6 := hF
      replace Q : Below w.heap.size w w7 := by rw [hw7]; exact below_setCells HGF.out _ _ _ Q6
      replace hS : BC w7 gS (stC x P (.slice Ac nc cc) D) := by rw [hw7]; exact hS.apart HNE.out.1 0 _
      replace hI : BC w7 gI (itC zeroI (.slice none 0 0) (.slice none 0 0)) := by rw [hw7]; exact hI.apart HNE.out.2 0 _
      replace hF : BC w7 gF (foC M1 N L K0) := by rw [hw7]; exact hF6.putMF M1
      clear hw7 Q6
      go_wp2_with (first
        | (refine wpList_store_foM rfl _ _ _ rfl gF rfl M1 rfl F.m N L K0 matT2 hF6 ?_; rw [← HW7.out])
        | (refine wpList_load_rec rfl _ _ rfl gM rfl _ 6 matT2 hM5 rfl ?_)
        | (refine wpList_load_rec rfl _ _ rfl gF rfl _ 9 foT hF rfl ?_)
        | (refine wpList_load_stM rfl _ _ rfl gS rfl x _ _ _ matT2 hS ?_)
        | fail)
      have hgl := hI.lt
      refine (HO.out _ Q).mono ?_; rintro e w8 ⟨b1, A8, c8, rfl, hs8, hnc8, hfr8, hcm8⟩
      replace Q := btr Q b1
      replace hS := hS.below b1
      replace hF := hF.below b1
      replace hI := hI.below b1
      by_cases hoe : oe = 0
      case neg =>
        have HE := Lib.hid (show Y = noL oe by rw [HY4.out, if_pos hoe])
        have hoe' : (oe != 0) = true := by simp [hoe]
        clear hoe HY4
        have hFz := hI.putAll (itC zeroI (.slice none 0 0) (.slice none 0 0)) rfl
        have hFB := below_setCells HGI.out (itC zeroI (.slice none 0 0) (.slice none 0 0)) 0 _ Q
        go_wp2_with (first
          | (refine wpList_store_rec rfl _ _ _ rfl gI (itC zeroI (.slice none 0 0) (.slice none 0 0)) _ rfl rfl 21 itT hI rfl rfl zeroI_one ?_)
          | fail)
        refine bodyPost_ret (result_rec4 rfl rfl rfl rfl rfl itT hFz rfl) rfl ?_
        rw [HE.out]
        exact ⟨_, _, rfl, zeroI_at _, hFB⟩
      have HY5 := Lib.hid (show Y = ((hemL x O, xR, yR), 0) by rw [HY4.out, if_neg (by simpa using hoe)])
      have hoe' : (oe != 0) = false := by simp [hoe]
      clear hoe HY4
      simp only at hs8 hnc8 hfr8
      obtain ⟨nO, hnO⟩ : ∃ n, n = O.length := ⟨_, rfl⟩
      rw [← hnO] at hs8 hnc8 hfr8
      have HNO := Lib.hid hnO
      go_upto_region 13 with (fail)
      rw [← hnO]
      clear hnO
      have a7 := hS.c 7 _ rfl
      have a8 := hS.c 8 _ rfl
      have a9 := hS.c 9 _ rfl
      have a10 := hS.c 10 _ rfl
      have a11 := hS.c 11 _ rfl
      have hFz := hI.putAll (itC (hemL x O) (.slice A8 nO c8) (.slice Ac nc cc)) rfl
      have hFB := below_setCells HGI.out (itC (hemL x O) (.slice A8 nO c8) (.slice Ac nc cc)) 0 _ Q
      have honeF : ∀ v ∈ itC (hemL x O) (.slice A8 nO c8) (.slice Ac nc cc), v.oneCell' = true := hemL_one rfl rfl
      go_wp2_with (first
        | (refine wpList_store_rec rfl _ _ _ rfl gI (itC (hemL x O) (.slice A8 nO c8) (.slice Ac nc cc)) _ rfl rfl 21 itT hI rfl rfl honeF ?_)
        | fail)
      refine bodyPost_ret (result_rec4 rfl rfl rfl rfl rfl itT hFz rfl) rfl ?_
      rw [HY5.out]
      exact ⟨_, _, rfl, ⟨pathV_at HNO.out (sl_farC hs8 hfr8 hgl 0 _) hnc8 hcm8, HCV.out.below hFB⟩, hFB⟩
  · intro K hK
    go_simp
    obtain ⟨wm, hwm⟩ : ∃ W, W = wn.alloc (.cells #[.int .i64 0, .int .i64 0, .int .i64 0, .int .i64 0, .int .i64 0, .int .i64 0] 23) := ⟨_, rfl⟩
    have HZ : BC wm wn.heap.size (mtC zeroM) := by rw [hwm]; exact BC.new (mtC zeroM) 23 rfl
    have Hn : Below w4.heap.size w4 wm := by rw [hwm]; exact bal HB _
    have hgm := HB.size
    obtain ⟨gM, hgM⟩ : ∃ g, g = wn.heap.size := ⟨_, rfl⟩
    rw [← hwm, ← hgM]
    rw [← hgM] at HZ hgm
    refine hK.out _ _ (HG.out _ Hn) ?_
    clear hK K HB hwm hgM
    obtain ⟨wn, hwn⟩ : ∃ W, W = wm := ⟨_, rfl⟩
    rw [← hwn] at Hn HZ ⊢
    have HB := Hn
    clear Hn hwn
    try simp only
    have hG := HG.out _ HB
    refine ord_one 6 rfl (by kernel_rfl) rfl ?_
    intro K hK
    go_simp
    refine (HSI.out _).mono ?_; rintro e wn ⟨rfl, hbn⟩
    have Hn := btr HB hbn
    refine hK.out _ _ (HG.out _ Hn) ?_
    clear hK K HB
    have HB := Hn
    clear Hn
    try simp only
    have hG := HG.out _ HB
    replace HZ := HZ.below hbn
    clear hbn
    refine ord_one 7 rfl (by kernel_rfl) rfl ?_
    intro K hK
    go_simp
    refine (HMU.out _).mono ?_; rintro e wn ⟨rfl, hbn⟩
    have Hn := btr HB hbn
    refine hK.out _ _ (HG.out _ Hn) ?_
    clear hK K HB
    have HB := Hn
    clear Hn
    try simp only
    have hG := HG.out _ HB
    replace HZ := HZ.below hbn
    refine ord_take (v := ?_) 8 rfl rfl (by kernel_rfl) (by kernel_rfl) (fun _ _ _ h => h) (Or.inl ⟨by rfl, ?_⟩) hG ?_
    rotate_left
    · rintro W ⟨y, rfl⟩
      go_simp
      (try with_reducible rfl)
    simp only [Act.put, List.setIfInBounds_toArray, List.set_cons_zero, List.set_cons_succ]
    refine ord_take (v := ?_) 9 rfl rfl (by kernel_rfl) (by kernel_rfl) (fun _ _ _ h => h) (Or.inl ⟨by rfl, ?_⟩) hG ?_
    rotate_left
    · rintro W ⟨y, rfl⟩
      go_simp
      (try with_reducible rfl)
    simp only [Act.put, List.setIfInBounds_toArray, List.set_cons_zero, List.set_cons_succ]
    refine ord_take (v := ?_) 10 rfl rfl (by kernel_rfl) (by kernel_rfl) (fun _ _ _ h => h) (Or.inl ⟨by rfl, ?_⟩) hG ?_
    rotate_left
    · rintro W ⟨y, rfl⟩
      go_simp
      (try with_reducible rfl)
    simp only [Act.put, List.setIfInBounds_toArray, List.set_cons_zero, List.set_cons_succ]
    clear hG
    refine ord_one 12 rfl (by kernel_rfl) rfl ?_
    intro K hK
    rw [if_pos (by rfl)]
    refine wp_store_mid 23 _ _ rfl gM 0 (mtC M1).toArray rfl rfl HZ.there (by kernel_rfl) (all_oneCell_toArray (mtC_oneR M1)) ?_
    refine hK.out _ _ (HG.out _ (below_setCells hgm _ _ _ HB)) ?_
    clear hK K
    try simp only
    obtain ⟨w5, hw5⟩ : ∃ W, W = wn.setCells gM 0 (mtC M1) := ⟨_, rfl⟩
    have Q5 : Below w4.heap.size w4 w5 := by rw [hw5]; exact below_setCells hgm _ _ _ HB
    have hM5 : BC w5 gM (mtC M1) := by rw [hw5]; exact HZ.putAll _ rfl
    have hw5' : wn.setCells gM 0 (mtC M1).toArray.toList = w5 := hw5.symm
    rw [hw5']
    have hG := HG.out _ Q5
    refine ord_take (v := ?_) 13 rfl rfl (by kernel_rfl) (by kernel_rfl) (fun _ _ _ h => h) (Or.inl ⟨by rfl, ?_⟩) hG ?_
    rotate_left
    · rintro W ⟨y, rfl⟩
      go_simp
      (try with_reducible rfl)
    simp only [Act.put, List.setIfInBounds_toArray, List.set_cons_zero, List.set_cons_succ]
    clear hG
    refine ⟨by kernel_rfl, ?_⟩
    refine NoPanic.normal ?_
    clear hw5 hw5' HZ HB HG HSI HMU
    replace Q := btr Q Q5
    replace hS := hS.below Q5
    replace hF := hF.below Q5
    replace hI := hI.below Q5
    by_cases he1 : e1 = 0
    case neg =>
      have HE := Lib.hid (show Y = noL e1 by rw [HY3.out, if_pos he1])
      have he1' : (e1 != 0) = true := by simp [he1]
      clear he1 HY3
      have hFz := hI.putAll (itC zeroI (.slice none 0 0) (.slice none 0 0)) rfl
      have hFB := below_setCells HGI.out (itC zeroI (.slice none 0 0) (.slice none 0 0)) 0 _ Q
      go_wp2_with (first
        | (refine wpList_store_rec rfl _ _ _ rfl gI (itC zeroI (.slice none 0 0) (.slice none 0 0)) _ rfl rfl 21 itT hI rfl rfl zeroI_one ?_)
        | fail)
      refine bodyPost_ret (result_rec4 rfl rfl rfl rfl rfl itT hFz rfl) rfl ?_
      rw [HE.out]
      exact ⟨_, _, rfl, zeroI_at _, hFB⟩
    have HY4 := Lib.hid (show Y = if oe ≠ 0 then noL oe else ((hemL x O, xR, yR), 0) by rw [HY3.out, if_neg (by simpa using he1)])
    have he1' : (e1 != 0) = false := by simp [he1]
    clear he1 HY3
    obtain ⟨w7, hw7⟩ : ∃ W, W = w5.setCells gF 0 (mtC M1) := ⟨_, rfl⟩
    have HW7 := Lib.hid hw7
    have Q6 := Q
    have hF6 := hF
    replace Q : Below w.heap.size w w7 := by rw [hw7]; exact below_setCells HGF.out _ _ _ Q6
    replace hS : BC w7 gS (stC x P (.slice Ac nc cc) D) := by rw [hw7]; exact hS.apart HNE.out.1 0 _
    replace hI : BC w7 gI (itC zeroI (.slice none 0 0) (.slice none 0 0)) := by rw [hw7]; exact hI.apart HNE.out.2 0 _
    replace hF : BC w7 gF (foC M1 N L K0) := by rw [hw7]; exact hF6.putMF M1
    clear hw7 Q6
    go_wp2_with (first
      | (refine wpList_store_foM rfl _ _ _ rfl gF rfl M1 rfl F.m N L K0 matT2 hF6 ?_; rw [← HW7.out])
      | (refine wpList_load_rec rfl _ _ rfl gM rfl _ 6 matT2 hM5 rfl ?_)
      | (refine wpList_load_rec rfl _ _ rfl gF rfl _ 9 foT hF rfl ?_)
      | (refine wpList_load_stM rfl _ _ rfl gS rfl x _ _ _ matT2 hS ?_)
      | fail)
    have hgl := hI.lt
    refine (HO.out _ Q).mono ?_; rintro e w8 ⟨b1, A8, c8, rfl, hs8, hnc8, hfr8, hcm8⟩
    replace Q := btr Q b1
    replace hS := hS.below b1
    replace hF := hF.below b1
    replace hI := hI.below b1
    by_cases hoe : oe = 0
    case neg =>
      have HE := Lib.hid (show Y = noL oe by rw [HY4.out, if_pos hoe])
      have hoe' : (oe != 0) = true := by simp [hoe]
      clear hoe HY4
      have hFz := hI.putAll (itC zeroI (.slice none 0 0) (.slice none 0 0)) rfl
      have hFB := below_setCells HGI.out (itC zeroI (.slice none 0 0) (.slice none 0 0)) 0 _ Q
      go_wp2_with (first
        | (refine wpList_store_rec rfl _ _ _ rfl gI (itC zeroI (.slice none 0 0) (.slice none 0 0)) _ rfl rfl 21 itT hI rfl rfl zeroI_one ?_)
        | fail)
      refine bodyPost_ret (result_rec4 rfl rfl rfl rfl rfl itT hFz rfl) rfl ?_
      rw [HE.out]
      exact ⟨_, _, rfl, zeroI_at _, hFB⟩
    have HY5 := Lib.hid (show Y = ((hemL x O, xR, yR), 0) by rw [HY4.out, if_neg (by simpa using hoe)])
    have hoe' : (oe != 0) = false := by simp [hoe]
    clear hoe HY4
    simp only at hs8 hnc8 hfr8
    obtain ⟨nO, hnO⟩ : ∃ n, n = O.length := ⟨_, rfl⟩
    rw [← hnO] at hs8 hnc8 hfr8
    have HNO := Lib.hid hnO
    go_upto_region 13 with (fail)
    rw [← hnO]
    clear hnO
    have a7 := hS.c 7 _ rfl
    have a8 := hS.c 8 _ rfl
    have a9 := hS.c 9 _ rfl
    have a10 := hS.c 10 _ rfl
    have a11 := hS.c 11 _ rfl
    have hFz := hI.putAll (itC (hemL x O) (.slice A8 nO c8) (.slice Ac nc cc)) rfl
    have hFB := below_setCells HGI.out (itC (hemL x O) (.slice A8 nO c8) (.slice Ac nc cc)) 0 _ Q
    have honeF : ∀ v ∈ itC (hemL x O) (.slice A8 nO c8) (.slice Ac nc cc), v.oneCell' = true := hemL_one rfl rfl
    go_wp2_with (first
      | (refine wpList_store_rec rfl _ _ _ rfl gI (itC (hemL x O) (.slice A8 nO c8) (.slice Ac nc cc)) _ rfl rfl 21 itT hI rfl rfl honeF ?_)
      | fail)
    refine bodyPost_ret (result_rec4 rfl rfl rfl rfl rfl itT hFz rfl) rfl ?_
    rw [HY5.out]
    exact ⟨_, _, rfl, ⟨pathV_at HNO.out (sl_farC hs8 hfr8 hgl 0 _) hnc8 hcm8, HCV.out.below hFB⟩, hFB⟩
end Go.Proofs.YtdfkbbcoolgfiaaGreat
