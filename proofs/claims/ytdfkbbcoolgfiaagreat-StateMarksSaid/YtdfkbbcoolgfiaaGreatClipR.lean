/- The reference's Clip of a state. -/
import Derived.Test.YtdfkbbcoolgfiaaGreatMSm
import Derived.Test.YtdfkbbcoolgfiaaGreatMHp
import Derived.Test.YtdfkbbcoolgfiaaGreatOrd2
import Derived.Test.YtdfkbbcoolgfiaaGreatAllP
namespace Go.Proofs.YtdfkbbcoolgfiaaGreat
open Go.RowKit Go.BigFrame

theorem StAt.zero (w : World) : StAt w zeroS (.slice none 0 0) (.slice none 0 0) (.slice none 0 0) := ⟨PathV.nil, ClV.nil, IntsV.nil⟩
set_option maxRecDepth 100000 in
set_option maxHeartbeats 4000000 in
theorem rClip_any (x : St) (P C D : Value) (rule : Int) (Y : St × Int) (w : World) (h : StAt w x P C D) (hf : stFew x) (hY : clipS x rule = Y) : Calls Tryz.prog 14 #[.agg (stC x P C D).toArray, .int .i64 rule] w
    fun r w' => ∃ P' C' D', r = .returned (.tuple #[.agg (stC Y.1 P' C' D').toArray, .int .i64 Y.2]) ∧ StAt w' Y.1 P' C' D' ∧ Below w.heap.size w w' := by
  have hMay0 := fun W (hq : Below w.heap.size w W) => rStMay_any x P C D W (h.below hq) hf
  obtain ⟨hp, ⟨Ac, cc, rfl, hcc, hcm, ps, hps, hcs, hpp⟩, hd⟩ := h
  obtain ⟨nc, hnc⟩ : ∃ n, n = x.cl.length := ⟨_, rfl⟩
  have HONE : Hid (∀ (A2 : Option Addr) (n2 c2 : Nat) (l : List Cl), ∀ v ∈ stC { x with p := [], cl := l } (.slice none 0 0) (.slice A2 n2 c2) D, v.oneCell' = true) := Lib.hid fun A2 n2 c2 l => stC_one rfl rfl (by obtain ⟨_, _, e, _⟩ := hd; rw [e]; rfl)
  have HPV := Lib.hid fun W (hq : Below w.heap.size w W) => hp.below hq
  have HPP := Lib.hid fun W (hq : Below w.heap.size w W) => fun p hpm => (hpp p hpm).below hq
  have HD := Lib.hid fun W (hq : Below w.heap.size w W) => hd.below hq
  have hone := oneCell_clcs ps fun p hp => (hpp p hp).one
  obtain ⟨Ap, cp, rfl, -⟩ := hp
  obtain ⟨np, hnp⟩ : ∃ n, n = x.p.length := ⟨_, rfl⟩
  rw [← hnp] at hMay0 HPV ⊢
  rw [← hnc] at hMay0 hcs hcc ⊢
  have hcl2 := hcs.1
  have hpl : ps.length = nc := by have := congrArg List.length hps; rw [List.length_map] at this; omega
  obtain ⟨w0, hw0⟩ : ∃ w0 : World, w0 = (w.alloc (.cells (stC x (.slice Ap np cp) (.slice Ac nc cc) D).toArray 32)).alloc (.cells (stC zeroS (.slice none 0 0) (.slice none 0 0) (.slice none 0 0)).toArray 32) := ⟨_, rfl⟩
  have Q : Below w.heap.size w w0 := by rw [hw0]; exact bal (bal (Below.refl _ _) _) _
  have hS : BC w0 w.heap.size (stC x (.slice Ap np cp) (.slice Ac nc cc) D) := by rw [hw0]; exact (BC.new (stC x (.slice Ap np cp) (.slice Ac nc cc) D) 32 rfl).below (bal (Below.refl _ _) _)
  have hR : BC w0 (w.heap.size + 1) (stC zeroS (.slice none 0 0) (.slice none 0 0) (.slice none 0 0)) := by rw [hw0]; exact BC.new (w := w.alloc _) _ 32 (by simp)
  obtain ⟨gR, hgR⟩ : ∃ g, g = w.heap.size + 1 := ⟨_, rfl⟩
  obtain ⟨gS, hgS⟩ : ∃ g, g = w.heap.size := ⟨_, rfl⟩
  have HGR : Hid (w.heap.size ≤ gR) := Lib.hid (by omega)
  have HGS : Hid (w.heap.size ≤ gS) := Lib.hid (by omega)
  have HSR : Hid (gR ≠ gS) := Lib.hid (by omega)
  have E1 := Lib.hid hgR
  have E3 := Lib.hid hgS
  rw [← hgR] at hR
  rw [← hgS] at hS
  rw [zero_lit] at hw0
  have HY := Lib.hid (show Y = if (mayS x && ruleB rule) = false then (zeroS, 1) else if 10 ≤ nc then (zeroS, 5) else ({ x with p := [], cl := x.cl ++ [⟨x.p, rule⟩] }, 0) by rw [← hY, hnc]; rfl)
  have HM := Lib.hid hMay0
  have HCS := Lib.hid hcs
  have HPS := Lib.hid hps
  have HNC := Lib.hid hnc
  have HONC := Lib.hid hone
  clear hY hf hMay0 hcs hps hnc hnp hone hgR hgS hd hpp hcc hcl2
  go_enter Tryz.func14, Tryz.ntmps14
  go_upto_region 1 with (fail)
  rw [← hw0, ← E1.out, ← E3.out]
  clear hw0 E1 E3
  go_wp2_with (first
    | (refine wpList_load_rec rfl _ _ rfl gS rfl _ 24 stateT hS rfl ?_)
    | fail)
  refine (HM.out _ Q).mono ?_; rintro e w1 ⟨rfl, b1⟩
  replace Q := btr Q b1
  replace hS := hS.below b1
  replace hR := hR.below b1
  clear b1 HM
  cases hm : mayS x
  · have HE := Lib.hid (show Y = (zeroS, 1) by rw [HY.out, hm]; rfl)
    clear hm HY
    have hFz := hR.putAll (stC zeroS (.slice none 0 0) (.slice none 0 0) (.slice none 0 0)) rfl
    have hFB := below_setCells HGR.out (stC zeroS (.slice none 0 0) (.slice none 0 0) (.slice none 0 0)) 0 _ Q
    go_wp2_with (first
      | (refine wpList_store_rec rfl _ _ _ rfl gR (stC zeroS (.slice none 0 0) (.slice none 0 0) (.slice none 0 0)) _ rfl rfl 24 stateT hR rfl rfl zero_one ?_)
      | fail)
    refine bodyPost_ret (result_rec rfl rfl rfl stateT hFz rfl) rfl ?_
    rw [HE.out]
    exact ⟨_, _, _, rfl, StAt.zero _, hFB⟩
  go_wp2_with fail
  refine (rRule_any rule _).mono ?_; rintro e w' ⟨rfl, rfl⟩
  cases hru : ruleB rule
  · have HE := Lib.hid (show Y = (zeroS, 1) by rw [HY.out, hm, hru]; rfl)
    clear hm hru HY
    have hFz := hR.putAll (stC zeroS (.slice none 0 0) (.slice none 0 0) (.slice none 0 0)) rfl
    have hFB := below_setCells HGR.out (stC zeroS (.slice none 0 0) (.slice none 0 0) (.slice none 0 0)) 0 _ Q
    go_wp2_with (first
      | (refine wpList_store_rec rfl _ _ _ rfl gR (stC zeroS (.slice none 0 0) (.slice none 0 0) (.slice none 0 0)) _ rfl rfl 24 stateT hR rfl rfl zero_one ?_)
      | fail)
    refine bodyPost_ret (result_rec rfl rfl rfl stateT hFz rfl) rfl ?_
    rw [HE.out]
    exact ⟨_, _, _, rfl, StAt.zero _, hFB⟩
  have HY2 := Lib.hid (show Y = if 10 ≤ nc then (zeroS, 5) else ({ x with p := [], cl := x.cl ++ [⟨x.p, rule⟩] }, 0) by rw [HY.out, hm, hru]; rfl)
  clear hm hru HY
  have a7 := hS.c 7 _ rfl
  by_cases h10 : 10 ≤ nc
  · have HE := Lib.hid (show Y = (zeroS, 5) by rw [HY2.out, if_pos h10])
    have h10' : decide (10 ≤ (nc : Int)) = true := by simp; omega
    clear h10 HY2
    have hFz := hR.putAll (stC zeroS (.slice none 0 0) (.slice none 0 0) (.slice none 0 0)) rfl
    have hFB := below_setCells HGR.out (stC zeroS (.slice none 0 0) (.slice none 0 0) (.slice none 0 0)) 0 _ Q
    go_wp2_with (first
      | (refine wpList_store_rec rfl _ _ _ rfl gR (stC zeroS (.slice none 0 0) (.slice none 0 0) (.slice none 0 0)) _ rfl rfl 24 stateT hR rfl rfl zero_one ?_)
      | fail)
    refine bodyPost_ret (result_rec rfl rfl rfl stateT hFz rfl) rfl ?_
    rw [HE.out]
    exact ⟨_, _, _, rfl, StAt.zero _, hFB⟩
  have HYE := Lib.hid (show Y = ({ x with p := [], cl := x.cl ++ [⟨x.p, rule⟩] }, 0) by rw [HY2.out, if_neg h10])
  have h10' : decide (10 ≤ (nc : Int)) = false := by simp; omega
  clear HY2
  go_upto_region 5 with (fail)
  clear a7 h10'
  obtain ⟨wd, hwd⟩ : ∃ W, W = w1.drew := ⟨_, rfl⟩
  have bd : Below w1.heap.size w1 wd := by rw [hwd]; exact bdrew (Below.refl _ _)
  have Qd := btr Q bd
  have hSd := hS.below bd
  have hRd := hR.below bd
  have HG1 := Lib.hid hSd.lt
  have HG2 := Lib.hid hRd.lt
  have hCSd := HCS.out.below Qd
  clear bd
  refine wp_region_ord (fun W => BC W gS (stC x (.slice Ap np cp) (.slice Ac nc cc) D)) [10] 11 (by kernel_rfl) (by kernel_rfl) (by rw [← hwd]; exact hSd) ?_
  rw [← hwd]
  clear hwd
  intro hG
  refine ord_take (v := ?_) 0 rfl rfl (by kernel_rfl) (by kernel_rfl) (fun _ _ _ h => h) (Or.inl ⟨by rfl, ?_⟩) hG ?_
  rotate_left
  · intro W hW
    have c6 := hW.c 6 _ rfl
    have c7 := hW.c 7 _ rfl
    go_simp
    (try with_reducible rfl)
  simp only [Act.put, List.setIfInBounds_toArray, List.set_cons_zero, List.set_cons_succ]
  refine ord_take (v := ?_) 1 rfl rfl (by kernel_rfl) (by kernel_rfl) (fun _ _ _ h => h) (Or.inl ⟨by rfl, ?_⟩) hG ?_
  rotate_left
  · intro W hW
    have c6 := hW.c 6 _ rfl
    have c7 := hW.c 7 _ rfl
    go_simp
    (try with_reducible rfl)
  simp only [Act.put, List.setIfInBounds_toArray, List.set_cons_zero, List.set_cons_succ]
  refine ord_take (v := ?_) 3 rfl rfl (by kernel_rfl) (by kernel_rfl) (fun _ _ _ h => h) (Or.inl ⟨by rfl, ?_⟩) hG ?_
  rotate_left
  · intro W hW
    have c6 := hW.c 6 _ rfl
    have c7 := hW.c 7 _ rfl
    go_simp
    (try with_reducible rfl)
  simp only [Act.put, List.setIfInBounds_toArray, List.set_cons_zero, List.set_cons_succ]
  refine ord_take (v := ?_) 4 rfl rfl (by kernel_rfl) (by kernel_rfl) (fun _ _ _ h => h) (Or.inl ⟨by rfl, ?_⟩) hG ?_
  rotate_left
  · intro W hW
    have c6 := hW.c 6 _ rfl
    have c7 := hW.c 7 _ rfl
    go_simp
    (try with_reducible rfl)
  simp only [Act.put, List.setIfInBounds_toArray, List.set_cons_zero, List.set_cons_succ]
  refine ord_take (v := ?_) 5 rfl rfl (by kernel_rfl) (by kernel_rfl) (fun _ _ _ h => h) (Or.inl ⟨by rfl, ?_⟩) hG ?_
  rotate_left
  · intro W hW
    have c6 := hW.c 6 _ rfl
    have c7 := hW.c 7 _ rfl
    go_simp
    (try with_reducible rfl)
  simp only [Act.put, List.setIfInBounds_toArray, List.set_cons_zero, List.set_cons_succ]
  refine ord_take (v := ?_) 6 rfl rfl (by kernel_rfl) (by kernel_rfl) (fun _ _ _ h => h) (Or.inl ⟨by rfl, ?_⟩) hG ?_
  rotate_left
  · intro W hW
    have c6 := hW.c 6 _ rfl
    have c7 := hW.c 7 _ rfl
    go_simp
    (try with_reducible rfl)
  simp only [Act.put, List.setIfInBounds_toArray, List.set_cons_zero, List.set_cons_succ]
  clear hG
  refine ord_two 2 7 rfl rfl (by kernel_rfl) rfl rfl ?_ ?_
  · intro K hK
    refine step_app (by rfl) _ _ 25 (by rfl) wd.heap.size clT (by rfl) own_nil (clcs ps) (by rfl) hCSd HONC.out (by omega) (Nat.le_refl _) ?_
    intro A1 c1 w2 hown1 hg1 hat1
    have b2 : Below wd.heap.size wd w2 := grown_below (Below.refl _ _) hg1 (own_nil (e := 65) (s := 2))
    refine hK.out _ _ (hSd.below b2) ?_
    clear hK K hat1
    simp only [Nat.zero_add, List.nil_append] at hown1 ⊢
    refine ord_one 7 rfl (by kernel_rfl) rfl ?_
    intro K hK
    go_simp
    obtain ⟨w3, hw3⟩ : ∃ W, W = w2.alloc (.cells #[.slice Ap np cp, .int .i64 rule] 65) := ⟨_, rfl⟩
    have sl3 : Sl w3 2 (some ⟨w2.heap.size, 0, none⟩) 1 (clc (⟨x.p, rule⟩, .slice Ap np cp)) := by rw [hw3]; exact sl_newN (clc (⟨x.p, rule⟩, .slice Ap np cp)) rfl rfl
    have b3 : Below w2.heap.size w2 w3 := by rw [hw3]; exact bal (Below.refl _ _) _
    rw [← hw3]
    refine hK.out _ _ (hSd.below (btr b2 b3)) ?_
    clear hK K hw3
    try simp only
    have hown3 := own_below hown1 b3
    have hsz3 : wd.heap.size ≤ w3.heap.size := (btr b2 b3).size
    refine ord_one 8 rfl (by kernel_rfl) rfl ?_
    intro K hK
    refine step_app (by rfl) _ _ 25 (by rfl) wd.heap.size clT (by rfl) hown3 (clc (⟨x.p, rule⟩, .slice Ap np cp)) (by rfl) sl3 (oneCell_clc _ rfl) (by omega) hsz3 ?_
    intro A2 c2 w4 hoe hg2 hat2
    have hBe : Below wd.heap.size wd w4 := grown_below (btr b2 b3) hg2 hown3
    have hSe := hSd.below hBe
    have hRe := hRd.below hBe
    refine hK.out _ _ hSe ?_
    clear hK K hat2 hg2 hown3 sl3 b2 b3 hown1 hg1
    try simp only
    have hG := hSe
    refine ord_take (v := ?_) 9 rfl rfl (by kernel_rfl) (by kernel_rfl) (fun _ _ _ h => h) (Or.inl ⟨by rfl, ?_⟩) hG ?_
    rotate_left
    · intro W hW
      have c6 := hW.c 6 _ rfl
      have c7 := hW.c 7 _ rfl
      go_simp
      (try with_reducible rfl)
    simp only [Act.put, List.setIfInBounds_toArray, List.set_cons_zero, List.set_cons_succ]
    clear hG
    have g7 := hSe.lt
    have n7 := hSe.nf 7
    have k7 := hSe.c 7 _ rfl
    refine ord_cut (by kernel_rfl) ?_
    refine any_one 10 rfl (by kernel_rfl) ?_
    intro K hK
    go_simp
    refine hK.out _ _ ?_
    clear hK K
    try simp only
    refine any_done (by kernel_rfl) ?_
    refine NoPanic.normal ?_
    have hS8 := hSe.set 7 (.slice A2 (nc + 1) c2) (by show 7 < 24; omega)
    have n6 := hS8.nf 6
    have k6 := hS8.c 6 _ rfl
    have hS9 := hS8.set 6 (.slice none 0 0) (by show 6 < 24; omega)
    rw [stC_clip _ _ _ _ _ (x.cl ++ [⟨x.p, rule⟩])] at hS9
    have hR9 : BC ((w4.setCell ⟨gS, 7, none⟩ (.slice A2 (nc + 1) c2)).setCell ⟨gS, 6, none⟩ (.slice none 0 0)) gR (stC zeroS (.slice none 0 0) (.slice none 0 0) (.slice none 0 0)) := (hRe.apart HSR.out 7 [.slice A2 (nc + 1) c2]).apart HSR.out 6 [.slice none 0 0]
    have hB9 : Below w.heap.size w ((w4.setCell ⟨gS, 7, none⟩ (.slice A2 (nc + 1) c2)).setCell ⟨gS, 6, none⟩ (.slice none 0 0)) := below_setCells HGS.out [.slice none 0 0] 6 _ (below_setCells HGS.out [.slice A2 (nc + 1) c2] 7 _ (btr Qd hBe))
    have hFz := hR9.putAll (stC { x with p := [], cl := x.cl ++ [⟨x.p, rule⟩] } (.slice none 0 0) (.slice A2 (nc + 1) c2) D) rfl
    have hFB := below_setCells HGR.out (stC { x with p := [], cl := x.cl ++ [⟨x.p, rule⟩] } (.slice none 0 0) (.slice A2 (nc + 1) c2) D) 0 _ hB9
    have hoF := own_setCells HG2.out (stC { x with p := [], cl := x.cl ++ [⟨x.p, rule⟩] } (.slice none 0 0) (.slice A2 (nc + 1) c2) D) 0 _ (own_setCell (own_setCell hoe HG1.out 7 (.slice A2 (nc + 1) c2)) HG1.out 6 (.slice none 0 0))
    clear k7 n7
    go_wp2_with (first
      | (refine wpList_load_rec rfl _ _ rfl gS rfl _ 24 stateT hS9 rfl ?_)
      | (refine wpList_store_rec rfl _ _ _ rfl gR (stC { x with p := [], cl := x.cl ++ [⟨x.p, rule⟩] } (.slice none 0 0) (.slice A2 (nc + 1) c2) D) _ rfl rfl 24 stateT hR9 rfl rfl (HONE.out _ _ _ _) ?_)
      | fail)
    refine bodyPost_ret (result_rec rfl rfl rfl stateT hFz rfl) rfl ?_
    rw [HYE.out]
    refine ⟨_, _, _, rfl, ⟨PathV.nil, ⟨A2, c2, by simp [HNC.out], ?_, own_max hoe, ps ++ [(⟨x.p, rule⟩, .slice Ap np cp)], by simp [HPS.out], ?_, ?_⟩, HD.out _ hFB⟩, hFB⟩
    · have := own_cap hoe; have := HNC.out; simp; omega
    · have h := own_sl hoF
      rw [clcs_app]
      have e : (x.cl ++ [Cl.mk x.p rule]).length = nc + 1 := by simp [HNC.out]
      rw [e]
      have e2 : clcs [(Cl.mk x.p rule, Value.slice Ap np cp)] = clc (⟨x.p, rule⟩, .slice Ap np cp) := by simp [clcs]
      rw [e2]; exact h
    · intro p hp
      rcases List.mem_append.1 hp with h | h
      · exact HPP.out _ hFB p h
      · rw [List.mem_singleton] at h; subst h; exact HPV.out _ hFB
  · intro K hK
    go_simp
    obtain ⟨w3, hw3⟩ : ∃ W, W = wd.alloc (.cells #[.slice Ap np cp, .int .i64 rule] 65) := ⟨_, rfl⟩
    have sl3 : Sl w3 2 (some ⟨wd.heap.size, 0, none⟩) 1 (clc (⟨x.p, rule⟩, .slice Ap np cp)) := by rw [hw3]; exact sl_newN (clc (⟨x.p, rule⟩, .slice Ap np cp)) rfl rfl
    have b3 : Below wd.heap.size wd w3 := by rw [hw3]; exact bal (Below.refl _ _) _
    rw [← hw3]
    refine hK.out _ _ (hSd.below b3) ?_
    clear hK K hw3
    try simp only
    refine ord_one 2 rfl (by kernel_rfl) rfl ?_
    intro K hK
    refine step_app (by rfl) _ _ 25 (by rfl) wd.heap.size clT (by rfl) own_nil (clcs ps) (by rfl) (hCSd.below b3) HONC.out (by omega) b3.size ?_
    intro A1 c1 w2 hown1 hg1 hat1
    have b2 : Below w3.heap.size w3 w2 := grown_below (Below.refl _ _) hg1 (own_nil (e := 65) (s := 2))
    refine hK.out _ _ (hSd.below (btr b3 b2)) ?_
    clear hK K hat1
    simp only [Nat.zero_add, List.nil_append] at hown1 ⊢
    have sl4 := sl3.below b2
    have hsz3 : wd.heap.size ≤ w2.heap.size := (btr b3 b2).size
    refine ord_one 8 rfl (by kernel_rfl) rfl ?_
    intro K hK
    refine step_app (by rfl) _ _ 25 (by rfl) wd.heap.size clT (by rfl) hown1 (clc (⟨x.p, rule⟩, .slice Ap np cp)) (by rfl) sl4 (oneCell_clc _ rfl) (by omega) hsz3 ?_
    intro A2 c2 w4 hoe hg2 hat2
    have hBe : Below wd.heap.size wd w4 := grown_below (btr b3 b2) hg2 hown1
    have hSe := hSd.below hBe
    have hRe := hRd.below hBe
    refine hK.out _ _ hSe ?_
    clear hK K hat2 hg2 hown1 sl3 sl4 b2 b3 hg1
    try simp only
    have hG := hSe
    refine ord_take (v := ?_) 9 rfl rfl (by kernel_rfl) (by kernel_rfl) (fun _ _ _ h => h) (Or.inl ⟨by rfl, ?_⟩) hG ?_
    rotate_left
    · intro W hW
      have c6 := hW.c 6 _ rfl
      have c7 := hW.c 7 _ rfl
      go_simp
      (try with_reducible rfl)
    simp only [Act.put, List.setIfInBounds_toArray, List.set_cons_zero, List.set_cons_succ]
    clear hG
    have g7 := hSe.lt
    have n7 := hSe.nf 7
    have k7 := hSe.c 7 _ rfl
    refine ord_cut (by kernel_rfl) ?_
    refine any_one 10 rfl (by kernel_rfl) ?_
    intro K hK
    go_simp
    refine hK.out _ _ ?_
    clear hK K
    try simp only
    refine any_done (by kernel_rfl) ?_
    refine NoPanic.normal ?_
    have hS8 := hSe.set 7 (.slice A2 (nc + 1) c2) (by show 7 < 24; omega)
    have n6 := hS8.nf 6
    have k6 := hS8.c 6 _ rfl
    have hS9 := hS8.set 6 (.slice none 0 0) (by show 6 < 24; omega)
    rw [stC_clip _ _ _ _ _ (x.cl ++ [⟨x.p, rule⟩])] at hS9
    have hR9 : BC ((w4.setCell ⟨gS, 7, none⟩ (.slice A2 (nc + 1) c2)).setCell ⟨gS, 6, none⟩ (.slice none 0 0)) gR (stC zeroS (.slice none 0 0) (.slice none 0 0) (.slice none 0 0)) := (hRe.apart HSR.out 7 [.slice A2 (nc + 1) c2]).apart HSR.out 6 [.slice none 0 0]
    have hB9 : Below w.heap.size w ((w4.setCell ⟨gS, 7, none⟩ (.slice A2 (nc + 1) c2)).setCell ⟨gS, 6, none⟩ (.slice none 0 0)) := below_setCells HGS.out [.slice none 0 0] 6 _ (below_setCells HGS.out [.slice A2 (nc + 1) c2] 7 _ (btr Qd hBe))
    have hFz := hR9.putAll (stC { x with p := [], cl := x.cl ++ [⟨x.p, rule⟩] } (.slice none 0 0) (.slice A2 (nc + 1) c2) D) rfl
    have hFB := below_setCells HGR.out (stC { x with p := [], cl := x.cl ++ [⟨x.p, rule⟩] } (.slice none 0 0) (.slice A2 (nc + 1) c2) D) 0 _ hB9
    have hoF := own_setCells HG2.out (stC { x with p := [], cl := x.cl ++ [⟨x.p, rule⟩] } (.slice none 0 0) (.slice A2 (nc + 1) c2) D) 0 _ (own_setCell (own_setCell hoe HG1.out 7 (.slice A2 (nc + 1) c2)) HG1.out 6 (.slice none 0 0))
    clear k7 n7
    go_wp2_with (first
      | (refine wpList_load_rec rfl _ _ rfl gS rfl _ 24 stateT hS9 rfl ?_)
      | (refine wpList_store_rec rfl _ _ _ rfl gR (stC { x with p := [], cl := x.cl ++ [⟨x.p, rule⟩] } (.slice none 0 0) (.slice A2 (nc + 1) c2) D) _ rfl rfl 24 stateT hR9 rfl rfl (HONE.out _ _ _ _) ?_)
      | fail)
    refine bodyPost_ret (result_rec rfl rfl rfl stateT hFz rfl) rfl ?_
    rw [HYE.out]
    refine ⟨_, _, _, rfl, ⟨PathV.nil, ⟨A2, c2, by simp [HNC.out], ?_, own_max hoe, ps ++ [(⟨x.p, rule⟩, .slice Ap np cp)], by simp [HPS.out], ?_, ?_⟩, HD.out _ hFB⟩, hFB⟩
    · have := own_cap hoe; have := HNC.out; simp; omega
    · have h := own_sl hoF
      rw [clcs_app]
      have e : (x.cl ++ [Cl.mk x.p rule]).length = nc + 1 := by simp [HNC.out]
      rw [e]
      have e2 : clcs [(Cl.mk x.p rule, Value.slice Ap np cp)] = clc (⟨x.p, rule⟩, .slice Ap np cp) := by simp [clcs]
      rw [e2]; exact h
    · intro p hp
      rcases List.mem_append.1 hp with h | h
      · exact HPP.out _ hFB p h
      · rw [List.mem_singleton] at h; subst h; exact HPV.out _ hFB
end Go.Proofs.YtdfkbbcoolgfiaaGreat
