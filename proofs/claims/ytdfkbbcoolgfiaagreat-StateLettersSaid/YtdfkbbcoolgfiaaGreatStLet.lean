/- state.Letters. -/
import Derived.Test.YtdfkbbcoolgfiaaGreatLetP
import Derived.Test.YtdfkbbcoolgfiaaGreatMTh
import Derived.Test.YtdfkbbcoolgfiaaGreatMHp
import Derived.Test.YtdfkbbcoolgfiaaGreatMF3
namespace Go.Proofs.YtdfkbbcoolgfiaaGreat
open Go.RowKit Go.Maps Go.BigFrame

theorem result_rec4 {P : Program} {w : World} {fn : Func} {p u1 u2 u3 : Tmp} {t : TypeId} {n g : Nat} {C : List Value} (hf : fn.results = #[.cell p t, .tmp u1, .tmp u2, .tmp u3]) {tmps : Array Value} {v1 v2 v3 : Value} (hp : tmps.getD p undef = .pointer (some ⟨g, 0, none⟩))
    (h1 : tmps.getD u1 undef = v1) (h2 : tmps.getD u2 undef = v2) (h3 : tmps.getD u3 undef = v3) (hT : RecT P t n) (h : BC w g C) (hn : C.length = n) : (results fn tmps).run P w = .ok (.tuple #[.agg C.toArray, v1, v2, v3]) w := by
  have ha : (asAddr (.pointer (some ⟨g, 0, none⟩))).run P w = .ok ⟨g, 0, none⟩ w := by go_simp
  rw [Array.getD_eq_getD_getElem?] at hp h1 h2 h3
  simp only [results, hf]
  simp [Sem.run_bind, Result.andThen, hp, h1, h2, h3, ha, loadVar_rec hT h hn]
theorem BC.putMF {w : World} {g : Nat} {m : Mt} {N L K : Value} (h : BC w g (foC m N L K)) (M : Mt) : BC (w.setCells g 0 (mtC M)) g (foC M N L K) :=
  (((((h.set 0 (.int .i64 M.a) (by show 0 < 9; omega)).set 1 (.int .i64 M.b) (by show 1 < 9; omega)).set 2 (.int .i64 M.c) (by show 2 < 9; omega)).set 3 (.int .i64 M.d) (by show 3 < 9; omega)).set 4 (.int .i64 M.e) (by show 4 < 9; omega)).set 5 (.int .i64 M.f) (by show 5 < 9; omega)
theorem FoAt.setM {w : World} {F : Fo} {m : Mt} {N L K : Value} (h : FoAt w F (foC m N L K)) (M : Mt) : FoAt w { F with m := M } (foC M N L K) := by
  obtain ⟨ok, A, B, E, c, d, e, hC, h1, h2, h3⟩ := h
  simp only [foC, List.cons.injEq, and_true] at hC
  obtain ⟨_, _, _, _, _, _, rfl, rfl, rfl⟩ := hC
  exact ⟨⟨ok.nl, ok.ll, ok.kl, ok.ns, ok.ls⟩, A, B, E, c, d, e, rfl, h1, h2, h3⟩
theorem wpList_store_foM {P : Program} {ops : Array Oper} {rest : List Oper} {op : Oper} {a : Act} {w : World} {Q : Exit → Act → World → Prop} (hgd : op.guard = none) (t : TypeId) (x y : Operand) (ho : op.op = .store t x y) (g : Nat) (hx : a.eval x = .pointer (some ⟨g, 0, none⟩))
    (M : Mt) (hy : a.eval y = .agg (mtC M).toArray) (m : Mt) (N L K : Value) (hT : RecT P t 6) (h : BC w g (foC m N L K)) (hk : wpList P ops Q rest (a.put op.dst undef) (w.setCells g 0 (mtC M))) : wpList P ops Q (op :: rest) a w := by
  obtain ⟨d, hu, hd, hi⟩ := hT
  have ht : w.there g 0 (mtC M).toArray.size := fun j hj => h.there j (Nat.lt_of_lt_of_le hj (by show 6 ≤ 9; omega))
  exact wpList_store_mid hgd t x y ho g 0 (mtC M).toArray hx hy ht (by rw [hi]; rfl) (all_oneCell_toArray (mtC_oneR M)) hk
/-- A state's matrix is read. -/
theorem wpList_load_stM {P : Program} {ops : Array Oper} {rest : List Oper} {op : Oper} {a : Act} {w : World} {Q : Exit → Act → World → Prop} (hgd : op.guard = none) (t : TypeId) (x : Operand) (ho : op.op = .load t x) (g : Nat) (hx : a.eval x = .pointer (some ⟨g, 0, none⟩))
    (s : St) (Pv C D : Value) (hT : RecT P t 6) (h : BC w g (stC s Pv C D)) (hk : wpList P ops Q rest (a.put op.dst (.agg (mtC s.m).toArray)) w) : wpList P ops Q (op :: rest) a w := by
  obtain ⟨d, hu, hd, hi⟩ := hT
  refine wpList_load_mid hgd t x ho g 0 hx (mtC s.m) d (fun j v hv => ?_) hu hd (by rw [hi]; rfl) hk
  rw [Nat.zero_add]
  refine h.c j v ?_
  have hj : j < (mtC s.m).length := (List.getElem?_eq_some_iff.1 hv).1
  show (mtC s.m ++ _)[j]? = some v
  rw [List.getElem?_append_left hj]; exact hv
theorem mayS_sz {x : St} (h : mayS x = true) : fixB x.sz = true := by
  unfold mayS restB at h
  simp only [Bool.and_eq_true] at h
  first | exact h.2.2 | exact h.2
theorem zeroI_at (w : World) : ItAt w zeroI (.slice none 0 0) (.slice none 0 0) := ⟨PathV.nil, ClV.nil⟩
theorem hemL_one {x : St} {l : List Sg} {P C : Value} (hp : P.oneCell' = true) (hc : C.oneCell' = true) : ∀ v ∈ itC (hemL x l) P C, v.oneCell' = true := itC_one hp hc
set_option maxRecDepth 100000 in
set_option maxHeartbeats 4000000 in
theorem stLetters_any (x : St) (P C D : Value) (F : Fo) (Cf : List Value) (s : ByteArray) (Y : (It × Int × Int) × Int) (w : World) (h : StAt w x P C D) (hFo : FoAt w F Cf) (hsz : s.size ≤ 1000000) (hY : lettersS x F (bl s) = Y) :
    Calls Tryz.prog 19 #[.agg (stC x P C D).toArray, .agg Cf.toArray, .string s] w fun r w' => ∃ P' C', r = .returned (.tuple #[.agg (itC Y.1.1 P' C').toArray, .int .i64 Y.1.2.1, .int .i64 Y.1.2.2, .int .i64 Y.2]) ∧ ItAt w' Y.1.1 P' C' ∧ Below w.heap.size w w' := by
  obtain ⟨N, L, K0, rfl⟩ := (show ∃ N L K, Cf = foC F.m N L K by obtain ⟨_, _, _, _, _, _, _, rfl, _⟩ := hFo; exact ⟨_, _, _, rfl⟩)
  obtain ⟨Ac, cc, rfl, hcl, hcc, hcm⟩ := h.c.sl
  obtain ⟨nc, hnc⟩ : ∃ n, n = x.cl.length := ⟨_, rfl⟩
  rw [← hnc] at h hcc ⊢
  have HNC := Lib.hid hnc
  obtain ⟨w0, hw0⟩ : ∃ w0 : World, w0 = ((w.alloc (.cells (stC x P (.slice Ac nc cc) D).toArray 32)).alloc (.cells (foC F.m N L K0).toArray 56)).alloc (.cells (itC zeroI (.slice none 0 0) (.slice none 0 0)).toArray 40) := ⟨_, rfl⟩
  have Q : Below w.heap.size w w0 := by rw [hw0]; exact bal (bal (bal (Below.refl _ _) _) _) _
  have hS : BC w0 w.heap.size (stC x P (.slice Ac nc cc) D) := by rw [hw0]; exact (BC.new (stC x P (.slice Ac nc cc) D) 32 rfl).below (bal (bal (Below.refl _ _) _) _)
  have hF : BC w0 (w.heap.size + 1) (foC F.m N L K0) := by rw [hw0]; exact (BC.new (w := w.alloc _) (foC F.m N L K0) 56 (by simp)).below (bal (Below.refl _ _) _)
  have hI : BC w0 (w.heap.size + 1 + 1) (itC zeroI (.slice none 0 0) (.slice none 0 0)) := by rw [hw0]; exact BC.new (w := (w.alloc _).alloc _) _ 40 (by simp)
  obtain ⟨gI, hgI⟩ : ∃ g, g = w.heap.size + 1 + 1 := ⟨_, rfl⟩
  obtain ⟨gF, hgF⟩ : ∃ g, g = w.heap.size + 1 := ⟨_, rfl⟩
  obtain ⟨gS, hgS⟩ : ∃ g, g = w.heap.size := ⟨_, rfl⟩
  have HGI : Hid (w.heap.size ≤ gI) := Lib.hid (by omega)
  have HGF : Hid (w.heap.size ≤ gF) := Lib.hid (by omega)
  have HNE : Hid (gS ≠ gF ∧ gI ≠ gF) := Lib.hid (by omega)
  have HSI : Hid (gS ≠ gI) := Lib.hid (by omega)
  have E1 := Lib.hid hgI
  have E2 := Lib.hid hgF
  have E3 := Lib.hid hgS
  rw [← hgI] at hI
  rw [← hgF] at hF
  rw [← hgS] at hS
  rw [zeroI_lit] at hw0
  obtain ⟨⟨hx, hy, he⟩, hH⟩ : ∃ R, hereS x = R := ⟨_, rfl⟩
  obtain ⟨SM, hSM⟩ : ∃ M, sizeM x.sz x.sz = M := ⟨_, rfl⟩
  obtain ⟨⟨M1, e1⟩, hM1⟩ : ∃ R, mulB F.m SM = R := ⟨_, rfl⟩
  obtain ⟨F', hF'⟩ : ∃ F' : Fo, { F with m := M1 } = F' := ⟨_, rfl⟩
  obtain ⟨⟨⟨O, xR, yR⟩, oe⟩, hO⟩ : ∃ R, outF F' x.m hx hy (bl s) = R := ⟨_, rfl⟩
  have HY := Lib.hid (show Y = if (mayS x && openB F) = false then noL 1 else if he ≠ 0 then noL he else if e1 ≠ 0 then noL e1 else if oe ≠ 0 then noL oe else ((hemL x O, xR, yR), 0) by
    rw [← hY]; unfold lettersS; rw [hH, hSM, hM1]; simp only [hF', hO])
  have HM := Lib.hid fun W (hq : Below w.heap.size w W) => stMay_any x P (.slice Ac nc cc) D W (h.below hq)
  have HFM := Lib.hid fun W (hq : Below w.heap.size w W) => fontMay_any F _ W (hFo.below hq)
  have HHE := Lib.hid fun W (hq : Below w.heap.size w W) => stHere_any x P (.slice Ac nc cc) D (hx, hy, he) W (h.below hq) hH
  have HSZ := Lib.hid fun (hm : mayS x = true) W => (show Calls Tryz.prog 48 #[.int .i64 x.sz, .int .i64 x.sz] W fun e w' => e = .returned (.tuple #[mtv SM, .int .i64 0]) ∧ Below W.heap.size W w' by rw [← hSM]; exact matSize_any x.sz x.sz W (mayS_sz hm) (mayS_sz hm))
  have HMU := Lib.hid fun W => matMul_all F.m SM (M1, e1) W hM1
  have HO := Lib.hid fun W (hq : Below w.heap.size w W) => outline_core F' (foC M1 N L K0) x.m hx hy s ((O, xR, yR), oe) W hsz (by rw [← hF']; exact (hFo.setM M1).below hq) hO
  have HFEW := Lib.hid fun (hm : mayS x = true) => mayS_few hm
  have HCL := Lib.hid hcl
  have HOF := Lib.hid hO
  unfold vP at HHE
  simp only [vm] at HSZ HMU HO
  clear hY h hFo hsz hH hSM hM1 hF' hO hnc hcl hgI hgF hgS
  go_enter Tryz.func19, Tryz.ntmps19
  go_upto_region 1 with (fail)
  rw [← hw0, ← E1.out, ← E2.out, ← E3.out]
  clear hw0 E1 E2 E3
  go_wp2_with (first
    | (refine wpList_load_rec rfl _ _ rfl gS rfl _ 24 stateT hS rfl ?_)
    | fail)
  refine (HM.out _ Q).mono ?_; rintro e w1 ⟨rfl, b1⟩
  replace Q := btr Q b1
  replace hS := hS.below b1
  replace hF := hF.below b1
  replace hI := hI.below b1
  clear b1 HM
  cases hm : mayS x
  · have HE := Lib.hid (show Y = noL 1 by rw [HY.out, hm]; rfl)
    clear hm HY
    have hFz := hI.putAll (itC zeroI (.slice none 0 0) (.slice none 0 0)) rfl
    have hFB := below_setCells HGI.out (itC zeroI (.slice none 0 0) (.slice none 0 0)) 0 _ Q
    go_wp2_with (first
      | (refine wpList_load_rec rfl _ _ rfl gI rfl _ 21 itT hI rfl ?_)
      | (refine wpList_store_rec rfl _ _ _ rfl gI (itC zeroI (.slice none 0 0) (.slice none 0 0)) _ rfl rfl 21 itT hI rfl rfl zeroI_one ?_)
      | fail)
    refine bodyPost_ret (result_rec4 rfl rfl rfl rfl rfl itT hFz rfl) rfl ?_
    rw [HE.out]
    exact ⟨_, _, rfl, zeroI_at _, hFB⟩
  have HSZ2 := Lib.hid (HSZ.out hm)
  have hfew := Lib.hid (HFEW.out hm)
  go_wp2_with (first
    | (refine wpList_load_rec_g (by kernel_rfl) _ _ rfl gF rfl _ 9 foT hF rfl ?_)
    | fail)
  refine (HFM.out _ Q).mono ?_; rintro e w2 ⟨rfl, b1⟩
  replace Q := btr Q b1
  replace hS := hS.below b1
  replace hF := hF.below b1
  replace hI := hI.below b1
  clear b1 HFM HSZ HFEW
  cases ho : openB F
  · have HE := Lib.hid (show Y = noL 1 by rw [HY.out, hm, ho]; rfl)
    clear hm ho HY
    have hFz := hI.putAll (itC zeroI (.slice none 0 0) (.slice none 0 0)) rfl
    have hFB := below_setCells HGI.out (itC zeroI (.slice none 0 0) (.slice none 0 0)) 0 _ Q
    go_wp2_with (first
      | (refine wpList_load_rec rfl _ _ rfl gI rfl _ 21 itT hI rfl ?_)
      | (refine wpList_store_rec rfl _ _ _ rfl gI (itC zeroI (.slice none 0 0) (.slice none 0 0)) _ rfl rfl 21 itT hI rfl rfl zeroI_one ?_)
      | fail)
    refine bodyPost_ret (result_rec4 rfl rfl rfl rfl rfl itT hFz rfl) rfl ?_
    rw [HE.out]
    exact ⟨_, _, rfl, zeroI_at _, hFB⟩
  have HY2 := Lib.hid (show Y = if he ≠ 0 then noL he else if e1 ≠ 0 then noL e1 else if oe ≠ 0 then noL oe else ((hemL x O, xR, yR), 0) by rw [HY.out, hm, ho]; rfl)
  clear hm ho HY
  go_wp2_with (first
    | (refine wpList_load_rec rfl _ _ rfl gS rfl _ 24 stateT hS rfl ?_)
    | fail)
  refine (HHE.out _ Q).mono ?_; rintro e w3 ⟨rfl, b1⟩
  replace Q := btr Q b1
  replace hS := hS.below b1
  replace hF := hF.below b1
  replace hI := hI.below b1
  clear b1 HHE
  by_cases hhe : he = 0
  case neg =>
    have HE := Lib.hid (show Y = noL he by rw [HY2.out, if_pos hhe])
    have hhe' : (he != 0) = true := by simp [hhe]
    clear hhe HY2
    have hFz := hI.putAll (itC zeroI (.slice none 0 0) (.slice none 0 0)) rfl
    have hFB := below_setCells HGI.out (itC zeroI (.slice none 0 0) (.slice none 0 0)) 0 _ Q
    go_wp2_with (first
      | (refine wpList_load_rec rfl _ _ rfl gI rfl _ 21 itT hI rfl ?_)
      | (refine wpList_store_rec rfl _ _ _ rfl gI (itC zeroI (.slice none 0 0) (.slice none 0 0)) _ rfl rfl 21 itT hI rfl rfl zeroI_one ?_)
      | fail)
    refine bodyPost_ret (result_rec4 rfl rfl rfl rfl rfl itT hFz rfl) rfl ?_
    rw [HE.out]
    exact ⟨_, _, rfl, zeroI_at _, hFB⟩
  have HY3 := Lib.hid (show Y = if e1 ≠ 0 then noL e1 else if oe ≠ 0 then noL oe else ((hemL x O, xR, yR), 0) by rw [HY2.out, if_neg (by simpa using hhe)])
  have hhe' : (he != 0) = false := by simp [hhe]
  have a23 := hS.c 23 _ rfl
  clear hhe HY2
  go_wp2_with fail
  refine (HSZ2.out _).mono ?_; rintro e w4 ⟨rfl, b1⟩
  replace Q := btr Q b1
  replace hS := hS.below b1
  replace hF := hF.below b1
  replace hI := hI.below b1
  clear b1 HSZ2 a23
  obtain ⟨w5, hw5, N5, b5, Z5⟩ := put_newM (W := w4) SM
  have HW5 := Lib.hid hw5
  clear hw5
  replace Q := btr Q b5
  replace hS := hS.below b5
  replace hF := hF.below b5
  replace hI := hI.below b5
  clear b5
  go_upto_region 8 with (first
    | (refine wpList_store_rec rfl _ _ _ rfl w4.heap.size (mtC SM) _ rfl rfl 6 matT2 Z5 rfl rfl (mtC_oneR _) ?_; rw [← HW5.out])
    | fail)
  clear Z5 HW5
  go_wp2_with (first
    | (refine wpList_load_foM rfl _ _ rfl gF rfl F.m N L K0 matT2 hF ?_)
    | (refine wpList_load_rec rfl _ _ rfl w4.heap.size rfl _ 6 matT2 N5 rfl ?_)
    | fail)
  refine (HMU.out _).mono ?_; rintro e w6 ⟨rfl, b1⟩
  replace Q := btr Q b1
  replace hS := hS.below b1
  replace hF := hF.below b1
  replace hI := hI.below b1
  clear b1 HMU N5
  obtain ⟨w7, hw7⟩ : ∃ W, W = w6.setCells gF 0 (mtC M1) := ⟨_, rfl⟩
  have HW7 := Lib.hid hw7
  have Q6 := Q
  have hF6 := hF
  replace Q : Below w.heap.size w w7 := by rw [hw7]; exact below_setCells HGF.out _ _ _ Q6
  replace hS : BC w7 gS (stC x P (.slice Ac nc cc) D) := by rw [hw7]; exact hS.apart HNE.out.1 0 _
  replace hI : BC w7 gI (itC zeroI (.slice none 0 0) (.slice none 0 0)) := by rw [hw7]; exact hI.apart HNE.out.2 0 _
  replace hF : BC w7 gF (foC M1 N L K0) := by rw [hw7]; exact hF6.putMF M1
  clear hw7 Q6
  by_cases he1 : e1 = 0
  case neg =>
    have HE := Lib.hid (show Y = noL e1 by rw [HY3.out, if_pos he1])
    have he1' : (e1 != 0) = true := by simp [he1]
    clear he1 HY3
    go_upto_region 9 with (first
      | (refine wpList_store_foM rfl _ _ _ rfl gF rfl M1 rfl F.m N L K0 matT2 hF6 ?_; rw [← HW7.out])
      | fail)
    have hFz := hI.putAll (itC zeroI (.slice none 0 0) (.slice none 0 0)) rfl
    have hFB := below_setCells HGI.out (itC zeroI (.slice none 0 0) (.slice none 0 0)) 0 _ Q
    go_wp2_with (first
      | (refine wpList_load_rec rfl _ _ rfl gI rfl _ 21 itT hI rfl ?_)
      | (refine wpList_store_rec rfl _ _ _ rfl gI (itC zeroI (.slice none 0 0) (.slice none 0 0)) _ rfl rfl 21 itT hI rfl rfl zeroI_one ?_)
      | fail)
    refine bodyPost_ret (result_rec4 rfl rfl rfl rfl rfl itT hFz rfl) rfl ?_
    rw [HE.out]
    exact ⟨_, _, rfl, zeroI_at _, hFB⟩
  have HY4 := Lib.hid (show Y = if oe ≠ 0 then noL oe else ((hemL x O, xR, yR), 0) by rw [HY3.out, if_neg (by simpa using he1)])
  have he1' : (e1 != 0) = false := by simp [he1]
  clear he1 HY3
  go_upto_region 9 with (first
    | (refine wpList_store_foM rfl _ _ _ rfl gF rfl M1 rfl F.m N L K0 matT2 hF6 ?_; rw [← HW7.out])
    | fail)
  clear hF6 HW7
  go_wp2_with (first
    | (refine wpList_load_rec rfl _ _ rfl gF rfl _ 9 foT hF rfl ?_)
    | (refine wpList_load_stM rfl _ _ rfl gS rfl x _ _ _ matT2 hS ?_)
    | fail)
  refine (HO.out _ Q).mono ?_; rintro e w8 ⟨b1, A8, c8, rfl, hs8, hnc8, -, hcm8⟩
  replace Q := btr Q b1
  replace hS := hS.below b1
  replace hF := hF.below b1
  replace hI := hI.below b1
  clear b1 HO
  by_cases hoe : oe = 0
  case neg =>
    have HE := Lib.hid (show Y = noL oe by rw [HY4.out, if_pos hoe])
    have hoe' : (oe != 0) = true := by simp [hoe]
    clear hoe HY4
    have hFz := hI.putAll (itC zeroI (.slice none 0 0) (.slice none 0 0)) rfl
    have hFB := below_setCells HGI.out (itC zeroI (.slice none 0 0) (.slice none 0 0)) 0 _ Q
    go_wp2_with (first
      | (refine wpList_load_rec rfl _ _ rfl gI rfl _ 21 itT hI rfl ?_)
      | (refine wpList_store_rec rfl _ _ _ rfl gI (itC zeroI (.slice none 0 0) (.slice none 0 0)) _ rfl rfl 21 itT hI rfl rfl zeroI_one ?_)
      | fail)
    refine bodyPost_ret (result_rec4 rfl rfl rfl rfl rfl itT hFz rfl) rfl ?_
    rw [HE.out]
    exact ⟨_, _, rfl, zeroI_at _, hFB⟩
  have HY5 := Lib.hid (show Y = ((hemL x O, xR, yR), 0) by rw [HY4.out, if_neg (by simpa using hoe)])
  have hoe' : (oe != 0) = false := by simp [hoe]
  clear hoe HY4
  simp only at hs8 hnc8
  have hOl : O.length ≤ 300 := by have := outF_lenL F' x.m hx hy (bl s); rw [HOF.out] at this; exact this
  obtain ⟨nO, hnO⟩ : ∃ n, n = O.length := ⟨_, rfl⟩
  rw [← hnO] at hs8 hnc8 hOl
  have HNO := Lib.hid hnO
  obtain ⟨f1, f2, f3, f4⟩ := hfew.out
  rw [← HNC.out] at f2
  have HF3 := Lib.hid f3
  go_upto_region 14 with (fail)
  rw [← hnO]
  clear hnO f1 f3 f4 hfew hnc8 hcm8 HOF
  refine wp_region_ord (fun W => BC W gS (stC x P (.slice Ac nc cc) D)) [] 14 (by kernel_rfl) (by kernel_rfl) (hS.below (bdrew (Below.refl _ _))) ?_
  intro hG
  refine ord_take (v := ?_) 0 rfl rfl (by kernel_rfl) (by kernel_rfl) (fun _ _ _ h => h) (Or.inl ⟨by rfl, ?_⟩) hG ?_
  rotate_left
  · intro W hW
    have c7 := hW.c 7 _ rfl
    have c8 := hW.c 8 _ rfl
    have c9 := hW.c 9 _ rfl
    have c10 := hW.c 10 _ rfl
    have c11 := hW.c 11 _ rfl
    go_simp
    (try with_reducible rfl)
  simp only [Act.put, List.setIfInBounds_toArray, List.set_cons_zero, List.set_cons_succ]
  refine ord_take (v := ?_) 2 rfl rfl (by kernel_rfl) (by kernel_rfl) (fun _ _ _ h => h) (Or.inl ⟨by rfl, ?_⟩) hG ?_
  rotate_left
  · intro W hW
    have c7 := hW.c 7 _ rfl
    have c8 := hW.c 8 _ rfl
    have c9 := hW.c 9 _ rfl
    have c10 := hW.c 10 _ rfl
    have c11 := hW.c 11 _ rfl
    go_simp
    (try with_reducible rfl)
  simp only [Act.put, List.setIfInBounds_toArray, List.set_cons_zero, List.set_cons_succ]
  refine ord_take (v := ?_) 3 rfl rfl (by kernel_rfl) (by kernel_rfl) (fun _ _ _ h => h) (Or.inl ⟨by rfl, ?_⟩) hG ?_
  rotate_left
  · intro W hW
    have c7 := hW.c 7 _ rfl
    have c8 := hW.c 8 _ rfl
    have c9 := hW.c 9 _ rfl
    have c10 := hW.c 10 _ rfl
    have c11 := hW.c 11 _ rfl
    go_simp
    (try with_reducible rfl)
  simp only [Act.put, List.setIfInBounds_toArray, List.set_cons_zero, List.set_cons_succ]
  refine ord_take (v := ?_) 4 rfl rfl (by kernel_rfl) (by kernel_rfl) (fun _ _ _ h => h) (Or.inl ⟨by rfl, ?_⟩) hG ?_
  rotate_left
  · intro W hW
    have c7 := hW.c 7 _ rfl
    have c8 := hW.c 8 _ rfl
    have c9 := hW.c 9 _ rfl
    have c10 := hW.c 10 _ rfl
    have c11 := hW.c 11 _ rfl
    go_simp
    (try with_reducible rfl)
  simp only [Act.put, List.setIfInBounds_toArray, List.set_cons_zero, List.set_cons_succ]
  refine ord_take (v := ?_) 5 rfl rfl (by kernel_rfl) (by kernel_rfl) (fun _ _ _ h => h) (Or.inl ⟨by rfl, ?_⟩) hG ?_
  rotate_left
  · intro W hW
    have c7 := hW.c 7 _ rfl
    have c8 := hW.c 8 _ rfl
    have c9 := hW.c 9 _ rfl
    have c10 := hW.c 10 _ rfl
    have c11 := hW.c 11 _ rfl
    go_simp
    (try with_reducible rfl)
  simp only [Act.put, List.setIfInBounds_toArray, List.set_cons_zero, List.set_cons_succ]
  refine ord_take (v := ?_) 8 rfl rfl (by kernel_rfl) (by kernel_rfl) (fun _ _ _ h => h) (Or.inl ⟨by rfl, ?_⟩) hG ?_
  rotate_left
  · intro W hW
    have c7 := hW.c 7 _ rfl
    have c8 := hW.c 8 _ rfl
    have c9 := hW.c 9 _ rfl
    have c10 := hW.c 10 _ rfl
    have c11 := hW.c 11 _ rfl
    go_simp
    (try with_reducible rfl)
  simp only [Act.put, List.setIfInBounds_toArray, List.set_cons_zero, List.set_cons_succ]
  refine ord_take (v := ?_) 9 rfl rfl (by kernel_rfl) (by kernel_rfl) (fun _ _ _ h => h) (Or.inl ⟨by rfl, ?_⟩) hG ?_
  rotate_left
  · intro W hW
    have c7 := hW.c 7 _ rfl
    have c8 := hW.c 8 _ rfl
    have c9 := hW.c 9 _ rfl
    have c10 := hW.c 10 _ rfl
    have c11 := hW.c 11 _ rfl
    go_simp
    (try with_reducible rfl)
  simp only [Act.put, List.setIfInBounds_toArray, List.set_cons_zero, List.set_cons_succ]
  clear hG
  refine ord_one 1 rfl (by kernel_rfl) rfl ?_
  intro K hK
  go_simp
  refine (ownSeg_any A8 nO c8 (sgs O) _ (hs8.below (bdrew (Below.refl _ _))) (oneCell_sgs _) (by omega)).mono ?_; rintro e w9 ⟨A9, c9, rfl, ho9, b9⟩
  have B9 := btr (bdrew (Below.refl w8.heap.size w8)) b9
  refine hK.out _ _ (hS.below B9) ?_
  clear hK K
  try simp only
  refine ord_one 6 rfl (by kernel_rfl) rfl ?_
  intro K hK
  go_simp
  refine (clips_any Ac nc cc x.cl _ HNC.out (by omega) HF3.out (HCL.out.below (btr Q B9))).mono ?_; rintro e wa ⟨Aa, ca, rfl, hoa, ba⟩
  have Ba := btr B9 ba
  refine hK.out _ _ (hS.below Ba) ?_
  clear hK K
  try simp only
  have hG := hS.below Ba
  refine ord_take (v := ?_) 7 rfl rfl (by kernel_rfl) (by kernel_rfl) (fun _ _ _ h => h) (Or.inl ⟨by rfl, ?_⟩) hG ?_
  rotate_left
  · intro W hW
    have c7 := hW.c 7 _ rfl
    have c8 := hW.c 8 _ rfl
    have c9 := hW.c 9 _ rfl
    have c10 := hW.c 10 _ rfl
    have c11 := hW.c 11 _ rfl
    go_simp
    (try with_reducible rfl)
  simp only [Act.put, List.setIfInBounds_toArray, List.set_cons_zero, List.set_cons_succ]
  clear hG
  have hgl := hI.lt
  have hIa := hI.below Ba
  refine ord_one 10 rfl (by kernel_rfl) rfl ?_
  intro K hK
  rw [if_pos (by rfl)]
  refine wp_store_mid 40 _ _ rfl gI 0 (itC (hemL x O) (.slice A9 nO c9) (.slice Aa nc ca)).toArray rfl rfl hIa.there (by kernel_rfl) (all_oneCell_toArray (hemL_one rfl rfl)) ?_
  refine hK.out _ _ ((hS.below Ba).apart HSI.out 0 _) ?_
  clear hK K
  try simp only
  obtain ⟨wz, hwz⟩ : ∃ W, W = wa.setCells gI 0 (itC (hemL x O) (.slice A9 nO c9) (.slice Aa nc ca)) := ⟨_, rfl⟩
  have hwz' : wa.setCells gI 0 (itC (hemL x O) (.slice A9 nO c9) (.slice Aa nc ca)).toArray.toList = wz := hwz.symm
  rw [hwz']
  have HWZ := Lib.hid hwz
  clear hwz hwz'
  have hG : BC wz gS (stC x P (.slice Ac nc cc) D) := by rw [HWZ.out]; exact (hS.below Ba).apart HSI.out 0 _
  refine ord_take (v := ?_) 11 rfl rfl (by kernel_rfl) (by kernel_rfl) (fun _ _ _ h => h) (Or.inl ⟨by rfl, ?_⟩) hG ?_
  rotate_left
  · intro W hW
    have c7 := hW.c 7 _ rfl
    have c8 := hW.c 8 _ rfl
    have c9 := hW.c 9 _ rfl
    have c10 := hW.c 10 _ rfl
    have c11 := hW.c 11 _ rfl
    go_simp
    (try with_reducible rfl)
  simp only [Act.put, List.setIfInBounds_toArray, List.set_cons_zero, List.set_cons_succ]
  refine ord_take (v := ?_) 12 rfl rfl (by kernel_rfl) (by kernel_rfl) (fun _ _ _ h => h) (Or.inl ⟨by rfl, ?_⟩) hG ?_
  rotate_left
  · intro W hW
    have c7 := hW.c 7 _ rfl
    have c8 := hW.c 8 _ rfl
    have c9 := hW.c 9 _ rfl
    have c10 := hW.c 10 _ rfl
    have c11 := hW.c 11 _ rfl
    go_simp
    (try with_reducible rfl)
  simp only [Act.put, List.setIfInBounds_toArray, List.set_cons_zero, List.set_cons_succ]
  refine ord_take (v := ?_) 13 rfl rfl (by kernel_rfl) (by kernel_rfl) (fun _ _ _ h => h) (Or.inl ⟨by rfl, ?_⟩) hG ?_
  rotate_left
  · intro W hW
    have c7 := hW.c 7 _ rfl
    have c8 := hW.c 8 _ rfl
    have c9 := hW.c 9 _ rfl
    have c10 := hW.c 10 _ rfl
    have c11 := hW.c 11 _ rfl
    go_simp
    (try with_reducible rfl)
  simp only [Act.put, List.setIfInBounds_toArray, List.set_cons_zero, List.set_cons_succ]
  clear hG
  refine ⟨by kernel_rfl, ?_⟩
  refine NoPanic.normal ?_
  have hFz := hIa.putAll (itC (hemL x O) (.slice A9 nO c9) (.slice Aa nc ca)) rfl
  have hFB := below_setCells HGI.out (itC (hemL x O) (.slice A9 nO c9) (.slice Aa nc ca)) 0 _ (btr Q Ba)
  have hoI : ItOwn wa w8.heap.size (hemL x O) (.slice A9 nO c9) (.slice Aa nc ca) := ⟨by have h := own_below ho9 ba; rw [HNO.out] at h ⊢; exact own_mono h (Nat.le_refl _), hoa.mono B9.size⟩
  have hFO := hoI.setCells hgl 0 (itC (hemL x O) (.slice A9 nO c9) (.slice Aa nc ca))
  rw [← HWZ.out] at hFz hFB hFO
  go_wp2_with fail
  refine bodyPost_ret (result_rec4 rfl rfl rfl rfl rfl itT hFz rfl) rfl ?_
  rw [HY5.out]
  exact ⟨_, _, rfl, hFO.at, hFB⟩
end Go.Proofs.YtdfkbbcoolgfiaaGreat
