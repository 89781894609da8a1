/- tympanref40: Path. -/
import Derived.Test.YtaphmonpdnbiiaaGreatFRef3
namespace Go.Proofs.YtaphmonpdnbiiaaGreat
open Go.RowKit Go.Maps Go.BigFrame

set_option maxRecDepth 100000 in
set_option maxHeartbeats 4000000 in
theorem rPath_any (F : Fo) (C : List Value) (m : Mt) (x y : Int) (c : Nat) (R : List Sg × Int) (w : World) (hc : c < 256) (h : FoAt w F C) (hR : pathF F m x y c = R) :
    Calls Tryz.prog 21 #[.agg C.toArray, mtv m, .int .i64 x, .int .i64 y, .int .u8 c] w fun e w' => Below w.heap.size w w' ∧ ∃ A' c', e = .returned (.tuple #[.slice A' R.1.length c', .int .i64 R.2]) ∧
      Sl w' 5 A' R.1.length (sgs R.1) := by
  have HO := Lib.hid fun W (hb : Below w.heap.size w W) => rFair40_any F C m x y W (h.below hb)
  have HL := Lib.hid fun W (hb : Below w.heap.size w W) => rLetter_any F C c W hc (h.below hb)
  have HSZ := Lib.hid fun x (hx : letterF F c = some x) => letter_sz h.ok hx
  have HMo := Lib.hid fun W => rMove_any x y W
  obtain ⟨⟨M1, e1⟩, hM1⟩ : ∃ R, mulB (moveM x y) m = R := ⟨_, rfl⟩
  obtain ⟨⟨M2, e2⟩, hM2⟩ : ∃ R, mulB F.m M1 = R := ⟨_, rfl⟩
  have HMu1 := Lib.hid fun W => rMul_any (moveM x y) m (M1, e1) W hM1
  have HMu2 := Lib.hid fun W => rMul_any F.m M1 (M2, e2) W hM2
  have HPLC := Lib.hid fun l => (show placeF F m x y l = if e1 ≠ 0 then ([], e1) else if e2 ≠ 0 then ([], e2) else plL M2 [] l by unfold placeF; rw [hM1]; simp only [hM2])
  have HR2 : Hid (R = if fairF F m x y then (if (runF F c).2 ≠ 0 then ([], (runF F c).2) else placeF F m x y (runF F c).1.1) else ([], 1)) := Lib.hid (by rw [← hR]; rfl)
  have HFO := Lib.hid fun (hq : fairF F m x y = true) => (show openB F = true by unfold fairF at hq; simp only [Bool.and_eq_true] at hq; exact hq.1.1.1)
  obtain ⟨ok, A, B, E, ca, cb, ce, rfl, h1, h2, h3⟩ := h
  rw [vm m]
  obtain ⟨w0, hw0⟩ : ∃ w0 : World, w0 = (w.alloc (.cells (foC F.m (.slice A F.names.length ca) (.slice B F.lets.length cb) (.slice E F.kern.length ce)).toArray 30)).alloc (.cells (mtC m).toArray 25) := ⟨_, rfl⟩
  have hB0 : Below w.heap.size w w0 := by rw [hw0]; exact bal (bal (Below.refl _ _) _) _
  have hA : BC w0 w.heap.size (foC F.m (.slice A F.names.length ca) (.slice B F.lets.length cb) (.slice E F.kern.length ce)) := by rw [hw0]; exact (BC.new _ 30 rfl).below (bal (Below.refl _ _) _)
  have hM : BC w0 (w.heap.size + 1) (mtC m) := by rw [hw0]; exact BC.new (w := w.alloc _) (mtC m) 25 (by simp)
  simp only [vm] at HO HMo HMu1 HMu2
  clear hR h1 h2 h3 ok hM1 hM2
  go_enter Tryz.func21, Tryz.ntmps21
  go_upto_region 1 with (fail)
  rw [← hw0]
  clear hw0
  go_wp2_with (first
    | (refine wpList_load_rec rfl _ _ rfl w.heap.size rfl _ 9 foT hA rfl ?_)
    | (refine wpList_load_rec rfl _ _ rfl (w.heap.size + 1) rfl _ 6 matT2 hM rfl ?_)
    | fail)
  refine (HO.out _ hB0).mono ?_; rintro e w1 ⟨rfl, hb1⟩
  have B1 := btr hB0 hb1
  have hA1 := hA.below hb1
  have hM1 := hM.below hb1
  clear hA hM hb1 HO hB0
  cases hq : fairF F m x y
  · have HE := Lib.hid (show R = ([], 1) by rw [HR2.out, hq]; rfl)
    clear HR2 hq
    go_wp2
    go_ret2
    rw [HE.out]
    exact ⟨B1, none, 0, rfl, Sl.nil_⟩
  rw [hq, if_pos rfl] at HR2
  have HRF := Lib.hid (runF_letter (c := c) (HFO.out hq))
  obtain ⟨Y, hY⟩ : ∃ Y, letterF F c = Y := ⟨_, rfl⟩
  rw [hY] at HL HRF HSZ
  clear hq hY HFO
  go_wp2_with (first
    | (refine wpList_load_rec rfl _ _ rfl w.heap.size rfl _ 9 foT hA1 rfl ?_)
    | fail)
  refine (HL.out _ B1).mono ?_; rintro e w2 ⟨rfl, hb2⟩
  have B2 := btr B1 hb2
  have hA2 := hA1.below hb2
  have hM2 := hM1.below hb2
  clear hb2 hA1 hM1 B1 HL
  cases Y with
  | none =>
    have HE := Lib.hid (show R = ([], 16) by rw [HR2.out, HRF.out]; rfl)
    clear HR2 HRF HSZ
    simp only [letV, Option.getD_none, Option.isSome_none, le0]
    go_wp2
    go_ret2
    rw [HE.out]
    exact ⟨bal B2 _, none, 0, rfl, Sl.nil_⟩
  | some xl =>
    have hz := HSZ.out xl rfl
    have hm3 := Lib.hid (run_ok (bl xl.prog)).1
    obtain ⟨⟨⟨L, wd⟩, er⟩, hG⟩ : ∃ G, RunG (bl xl.prog) = G := ⟨_, rfl⟩
    obtain ⟨n, hn⟩ : ∃ n, L.length = n := ⟨_, rfl⟩
    have HRun := Lib.hid fun W => rRun_is (p := xl.prog) (n := n) W hz hG hn
    have HRF2 := Lib.hid (show runF F c = if er = 0 then ((L, wd), er) else (([], 0), 16) by rw [HRF.out]; simp only [hG])
    rw [hG] at hm3
    simp only at hm3
    clear HRF HSZ hz hG hn
    simp only [letV, Option.getD_some, Option.isSome_some]
    go_wp2_with fail
    refine (HRun.out _).mono ?_; rintro e w4 ⟨A3, c3, rfl, hs4, hb4⟩
    have b4 := btr (bal (Below.refl w2.heap.size w2) (.cells #[.string xl.name, .string xl.prog] 48)) hb4
    have B4 := btr B2 b4
    have hA4 := hA2.below b4
    have hM4 := hM2.below b4
    clear hA2 hM2 hb4 b4 B2 HRun
    by_cases he : er = 0
    · have HR4 : Hid (R = if e1 ≠ 0 then ([], e1) else if e2 ≠ 0 then ([], e2) else plL M2 [] L) := Lib.hid (by
        rw [HR2.out, HRF2.out, if_pos he, if_neg (by simpa using he)]; exact HPLC.out L)
      have he' : (er != 0) = false := by simp [he]
      have HMm := Lib.hid fun (W : World) (hW : ∃ y : Grown w4, W = y.world) => (show BC W (w.heap.size + 1) _ by obtain ⟨y, rfl⟩ := hW; exact hM4.below y.below)
      clear HR2 HRF2 HPLC he
      go_upto_region 9 with (fail)
      obtain ⟨wn, hwn⟩ : ∃ W, W = w4.drew := ⟨_, rfl⟩
      have HB : Below w4.heap.size w4 wn := by rw [hwn]; exact bdrew (Below.refl _ _)
      refine wp_region_ord (fun W => ∃ y : Grown w4, W = y.world) [] 11 (by kernel_rfl) (by kernel_rfl) ⟨⟨_, bdrew (Below.refl _ _)⟩, rfl⟩ ?_
      intro hS
      have HG := Lib.hid (fun (W : World) (hW : Below w4.heap.size w4 W) => (⟨⟨W, hW⟩, rfl⟩ : ∃ y : Grown w4, W = y.world))
      refine ord_take (v := ?_) 0 rfl rfl (by kernel_rfl) (by kernel_rfl) (fun _ _ _ h => h) (Or.inl ⟨by rfl, ?_⟩) hS ?_
      rotate_left
      · rintro W ⟨y, rfl⟩
        go_simp
        (try with_reducible rfl)
      simp only [Act.put, List.setIfInBounds_toArray, List.set_cons_zero, List.set_cons_succ]
      refine ord_take (v := ?_) 1 rfl rfl (by kernel_rfl) (by kernel_rfl) (fun _ _ _ h => h) (Or.inl ⟨by rfl, ?_⟩) hS ?_
      rotate_left
      · rintro W ⟨y, rfl⟩
        go_simp
        (try with_reducible rfl)
      simp only [Act.put, List.setIfInBounds_toArray, List.set_cons_zero, List.set_cons_succ]
      refine ord_take 3 rfl rfl (by kernel_rfl) (by kernel_rfl) (fun _ _ _ h => h) (yieldsIf_rec (by rfl) _ _ rfl _ rfl _ 6 matT2 HMm.out rfl) hS ?_
      simp only [Act.put, List.setIfInBounds_toArray, List.set_cons_zero, List.set_cons_succ]
      rw [← hwn] at hS ⊢
      clear hwn HMm hM4
      refine ord_two 2 8 rfl rfl (by kernel_rfl) rfl rfl ?_ ?_
      · intro K hK
        go_simp
        refine (HMo.out _).mono ?_; rintro e wn ⟨rfl, hbn⟩
        have Hn := btr HB hbn
        refine hK.out _ _ (HG.out _ Hn) ?_
        clear hK K HB
        have HB := Hn
        clear Hn
        try simp only
        have hS := HG.out _ HB
        refine ord_two 4 8 rfl rfl (by kernel_rfl) rfl rfl ?_ ?_
        · intro K hK
          go_simp
          refine (HMu1.out _).mono ?_; rintro e wn ⟨rfl, hbn⟩
          have Hn := btr HB hbn
          refine hK.out _ _ (HG.out _ Hn) ?_
          clear hK K HB
          have HB := Hn
          clear Hn
          try simp only
          have hS := HG.out _ HB
          refine ord_take (v := ?_) 5 rfl rfl (by kernel_rfl) (by kernel_rfl) (fun _ _ _ h => h) (Or.inl ⟨by rfl, ?_⟩) hS ?_
          rotate_left
          · rintro W ⟨y, rfl⟩
            go_simp
            (try with_reducible rfl)
          simp only [Act.put, List.setIfInBounds_toArray, List.set_cons_zero, List.set_cons_succ]
          refine ord_take (v := ?_) 6 rfl rfl (by kernel_rfl) (by kernel_rfl) (fun _ _ _ h => h) (Or.inl ⟨by rfl, ?_⟩) hS ?_
          rotate_left
          · rintro W ⟨y, rfl⟩
            go_simp
            (try with_reducible rfl)
          simp only [Act.put, List.setIfInBounds_toArray, List.set_cons_zero, List.set_cons_succ]
          refine ord_take (v := ?_) 7 rfl rfl (by kernel_rfl) (by kernel_rfl) (fun _ _ _ h => h) (Or.inl ⟨by rfl, ?_⟩) hS ?_
          rotate_left
          · rintro W ⟨y, rfl⟩
            go_simp
            (try with_reducible rfl)
          simp only [Act.put, List.setIfInBounds_toArray, List.set_cons_zero, List.set_cons_succ]
          refine ord_one 8 rfl (by kernel_rfl) rfl ?_
          intro K hK
          go_simp
          obtain ⟨wm, hwm⟩ : ∃ W, W = wn.alloc (.cells #[.int .i64 0, .int .i64 0, .int .i64 0, .int .i64 0, .int .i64 0, .int .i64 0] 25) := ⟨_, rfl⟩
          have HZ : BC wm wn.heap.size (mtC zeroM) := by rw [hwm]; exact BC.new (mtC zeroM) 25 rfl
          have Hn : Below w4.heap.size w4 wm := by rw [hwm]; exact bal HB _
          have hgm := HB.size
          obtain ⟨gM, hgM⟩ : ∃ g, g = wn.heap.size := ⟨_, rfl⟩
          rw [← hwm, ← hgM]
          rw [← hgM] at HZ hgm
          refine hK.out _ _ (HG.out _ Hn) ?_
          clear hK K HB hwm hgM
          obtain ⟨wn, hwn⟩ : ∃ W, W = wm := ⟨_, rfl⟩
          rw [← hwn] at Hn HZ ⊢
          have HB := Hn
          clear Hn hwn
          try simp only
          have hS := HG.out _ HB
          clear hS
          refine ord_one 9 rfl (by kernel_rfl) rfl ?_
          intro K hK
          rw [if_pos (by rfl)]
          refine wp_store_mid 25 _ _ rfl gM 0 (mtC M1).toArray rfl rfl HZ.there (by kernel_rfl) (all_oneCell_toArray (mtC_oneR M1)) ?_
          refine hK.out _ _ (HG.out _ (below_setCells hgm _ _ _ HB)) ?_
          clear hK K
          try simp only
          obtain ⟨w5, hw5⟩ : ∃ W, W = wn.setCells gM 0 (mtC M1) := ⟨_, rfl⟩
          have Q5 : Below w4.heap.size w4 w5 := by rw [hw5]; exact below_setCells hgm _ _ _ HB
          have hM5 : BC w5 gM (mtC M1) := by rw [hw5]; exact HZ.putAll _ rfl
          have hw5' : wn.setCells gM 0 (mtC M1).toArray.toList = w5 := hw5.symm
          rw [hw5']
          have hS := HG.out _ Q5
          refine ord_take (v := ?_) 10 rfl rfl (by kernel_rfl) (by kernel_rfl) (fun _ _ _ h => h) (Or.inl ⟨by rfl, ?_⟩) hS ?_
          rotate_left
          · rintro W ⟨y, rfl⟩
            go_simp
            (try with_reducible rfl)
          simp only [Act.put, List.setIfInBounds_toArray, List.set_cons_zero, List.set_cons_succ]
          clear hS
          refine ⟨by kernel_rfl, ?_⟩
          refine NoPanic.normal ?_
          clear hw5 hw5' HZ HB HG HMo HMu1
          have B5 := btr B4 Q5
          have hA5 := hA4.below Q5
          by_cases he1 : e1 = 0
          · have HR5 : Hid (R = if e2 ≠ 0 then ([], e2) else plL M2 [] L) := Lib.hid (by rw [HR4.out, if_neg (by simpa using he1)])
            have he1' : (e1 != 0) = false := by simp [he1]
            clear he1 HR4
            go_wp2_with (first
              | (refine wpList_load_foM rfl _ _ rfl w.heap.size rfl F.m _ _ _ matT2 hA5 ?_)
              | (refine wpList_load_rec rfl _ _ rfl gM rfl _ 6 matT2 hM5 rfl ?_)
              | fail)
            refine (HMu2.out _).mono ?_; rintro e w6 ⟨rfl, b6⟩
            have Q6 := btr Q5 b6
            have hM6 := hM5.below b6
            obtain ⟨w7, hw7⟩ : ∃ W, W = w6.setCells gM 0 (mtC M2) := ⟨_, rfl⟩
            have HW7 := Lib.hid hw7
            have Q7 : Below w4.heap.size w4 w7 := by rw [hw7]; exact below_setCells hgm _ _ _ Q6
            have hM7 : BC w7 gM (mtC M2) := by rw [hw7]; exact hM6.putAll _ rfl
            have B7 := btr B4 Q7
            have hs7 := hs4.below Q7
            clear hw7 b6 Q6 hA5 hM5 HMu2
            by_cases he2 : e2 = 0
            · have HR6 : Hid (R = plL M2 [] L) := Lib.hid (by rw [HR5.out, if_neg (by simpa using he2)])
              have he2' : (e2 != 0) = false := by simp [he2]
              have HMV := Lib.hid (moved_any M2 A3 n c3 L R w7 hs7 hm3.out HR6.out.symm)
              simp only [vm] at HMV
              clear he2 HR5 hs7
              go_wp2_with (first
                | (refine wpList_store_rec rfl _ _ _ rfl gM (mtC M2) _ rfl rfl 6 matT2 hM6 rfl rfl (mtC_oneR _) ?_; rw [← HW7.out])
                | (refine wpList_load_rec rfl _ _ rfl gM rfl _ 6 matT2 hM7 rfl ?_)
                | fail)
              refine HMV.out.mono ?_; rintro e w8 ⟨b8, A8, c8, rfl, ho8⟩
              go_wp2
              go_ret2
              exact ⟨btr B7 b8, A8, c8, rfl, own_sl ho8⟩
            · have HE := Lib.hid (show R = ([], e2) by rw [HR5.out, if_pos (by simpa using he2)])
              have he2' : (e2 != 0) = true := by simp [he2]
              clear HR5 he2
              go_wp2_with (first
                | (refine wpList_store_rec rfl _ _ _ rfl gM (mtC M2) _ rfl rfl 6 matT2 hM6 rfl rfl (mtC_oneR _) ?_; rw [← HW7.out])
                | fail)
              go_ret2
              rw [HE.out]
              exact ⟨B7, none, 0, rfl, Sl.nil_⟩
          · have HE := Lib.hid (show R = ([], e1) by rw [HR4.out, if_pos (by simpa using he1)])
            have he1' : (e1 != 0) = true := by simp [he1]
            clear HR4 he1
            go_wp2
            go_ret2
            rw [HE.out]
            exact ⟨B5, none, 0, rfl, Sl.nil_⟩
        · intro K hK
          go_simp
          obtain ⟨wm, hwm⟩ : ∃ W, W = wn.alloc (.cells #[.int .i64 0, .int .i64 0, .int .i64 0, .int .i64 0, .int .i64 0, .int .i64 0] 25) := ⟨_, rfl⟩
          have HZ : BC wm wn.heap.size (mtC zeroM) := by rw [hwm]; exact BC.new (mtC zeroM) 25 rfl
          have Hn : Below w4.heap.size w4 wm := by rw [hwm]; exact bal HB _
          have hgm := HB.size
          obtain ⟨gM, hgM⟩ : ∃ g, g = wn.heap.size := ⟨_, rfl⟩
          rw [← hwm, ← hgM]
          rw [← hgM] at HZ hgm
          refine hK.out _ _ (HG.out _ Hn) ?_
          clear hK K HB hwm hgM
          obtain ⟨wn, hwn⟩ : ∃ W, W = wm := ⟨_, rfl⟩
          rw [← hwn] at Hn HZ ⊢
          have HB := Hn
          clear Hn hwn
          try simp only
          have hS := HG.out _ HB
          refine ord_one 4 rfl (by kernel_rfl) rfl ?_
          intro K hK
          go_simp
          refine (HMu1.out _).mono ?_; rintro e wn ⟨rfl, hbn⟩
          have Hn := btr HB hbn
          refine hK.out _ _ (HG.out _ Hn) ?_
          clear hK K HB
          have HB := Hn
          clear Hn
          try simp only
          have hS := HG.out _ HB
          replace HZ := HZ.below hbn
          refine ord_take (v := ?_) 5 rfl rfl (by kernel_rfl) (by kernel_rfl) (fun _ _ _ h => h) (Or.inl ⟨by rfl, ?_⟩) hS ?_
          rotate_left
          · rintro W ⟨y, rfl⟩
            go_simp
            (try with_reducible rfl)
          simp only [Act.put, List.setIfInBounds_toArray, List.set_cons_zero, List.set_cons_succ]
          refine ord_take (v := ?_) 6 rfl rfl (by kernel_rfl) (by kernel_rfl) (fun _ _ _ h => h) (Or.inl ⟨by rfl, ?_⟩) hS ?_
          rotate_left
          · rintro W ⟨y, rfl⟩
            go_simp
            (try with_reducible rfl)
          simp only [Act.put, List.setIfInBounds_toArray, List.set_cons_zero, List.set_cons_succ]
          refine ord_take (v := ?_) 7 rfl rfl (by kernel_rfl) (by kernel_rfl) (fun _ _ _ h => h) (Or.inl ⟨by rfl, ?_⟩) hS ?_
          rotate_left
          · rintro W ⟨y, rfl⟩
            go_simp
            (try with_reducible rfl)
          simp only [Act.put, List.setIfInBounds_toArray, List.set_cons_zero, List.set_cons_succ]
          clear hS
          refine ord_one 9 rfl (by kernel_rfl) rfl ?_
          intro K hK
          rw [if_pos (by rfl)]
          refine wp_store_mid 25 _ _ rfl gM 0 (mtC M1).toArray rfl rfl HZ.there (by kernel_rfl) (all_oneCell_toArray (mtC_oneR M1)) ?_
          refine hK.out _ _ (HG.out _ (below_setCells hgm _ _ _ HB)) ?_
          clear hK K
          try simp only
          obtain ⟨w5, hw5⟩ : ∃ W, W = wn.setCells gM 0 (mtC M1) := ⟨_, rfl⟩
          have Q5 : Below w4.heap.size w4 w5 := by rw [hw5]; exact below_setCells hgm _ _ _ HB
          have hM5 : BC w5 gM (mtC M1) := by rw [hw5]; exact HZ.putAll _ rfl
          have hw5' : wn.setCells gM 0 (mtC M1).toArray.toList = w5 := hw5.symm
          rw [hw5']
          have hS := HG.out _ Q5
          refine ord_take (v := ?_) 10 rfl rfl (by kernel_rfl) (by kernel_rfl) (fun _ _ _ h => h) (Or.inl ⟨by rfl, ?_⟩) hS ?_
          rotate_left
          · rintro W ⟨y, rfl⟩
            go_simp
            (try with_reducible rfl)
          simp only [Act.put, List.setIfInBounds_toArray, List.set_cons_zero, List.set_cons_succ]
          clear hS
          refine ⟨by kernel_rfl, ?_⟩
          refine NoPanic.normal ?_
          clear hw5 hw5' HZ HB HG HMo HMu1
          have B5 := btr B4 Q5
          have hA5 := hA4.below Q5
          by_cases he1 : e1 = 0
          · have HR5 : Hid (R = if e2 ≠ 0 then ([], e2) else plL M2 [] L) := Lib.hid (by rw [HR4.out, if_neg (by simpa using he1)])
            have he1' : (e1 != 0) = false := by simp [he1]
            clear he1 HR4
            go_wp2_with (first
              | (refine wpList_load_foM rfl _ _ rfl w.heap.size rfl F.m _ _ _ matT2 hA5 ?_)
              | (refine wpList_load_rec rfl _ _ rfl gM rfl _ 6 matT2 hM5 rfl ?_)
              | fail)
            refine (HMu2.out _).mono ?_; rintro e w6 ⟨rfl, b6⟩
            have Q6 := btr Q5 b6
            have hM6 := hM5.below b6
            obtain ⟨w7, hw7⟩ : ∃ W, W = w6.setCells gM 0 (mtC M2) := ⟨_, rfl⟩
            have HW7 := Lib.hid hw7
            have Q7 : Below w4.heap.size w4 w7 := by rw [hw7]; exact below_setCells hgm _ _ _ Q6
            have hM7 : BC w7 gM (mtC M2) := by rw [hw7]; exact hM6.putAll _ rfl
            have B7 := btr B4 Q7
            have hs7 := hs4.below Q7
            clear hw7 b6 Q6 hA5 hM5 HMu2
            by_cases he2 : e2 = 0
            · have HR6 : Hid (R = plL M2 [] L) := Lib.hid (by rw [HR5.out, if_neg (by simpa using he2)])
              have he2' : (e2 != 0) = false := by simp [he2]
              have HMV := Lib.hid (moved_any M2 A3 n c3 L R w7 hs7 hm3.out HR6.out.symm)
              simp only [vm] at HMV
              clear he2 HR5 hs7
              go_wp2_with (first
                | (refine wpList_store_rec rfl _ _ _ rfl gM (mtC M2) _ rfl rfl 6 matT2 hM6 rfl rfl (mtC_oneR _) ?_; rw [← HW7.out])
                | (refine wpList_load_rec rfl _ _ rfl gM rfl _ 6 matT2 hM7 rfl ?_)
                | fail)
              refine HMV.out.mono ?_; rintro e w8 ⟨b8, A8, c8, rfl, ho8⟩
              go_wp2
              go_ret2
              exact ⟨btr B7 b8, A8, c8, rfl, own_sl ho8⟩
            · have HE := Lib.hid (show R = ([], e2) by rw [HR5.out, if_pos (by simpa using he2)])
              have he2' : (e2 != 0) = true := by simp [he2]
              clear HR5 he2
              go_wp2_with (first
                | (refine wpList_store_rec rfl _ _ _ rfl gM (mtC M2) _ rfl rfl 6 matT2 hM6 rfl rfl (mtC_oneR _) ?_; rw [← HW7.out])
                | fail)
              go_ret2
              rw [HE.out]
              exact ⟨B7, none, 0, rfl, Sl.nil_⟩
          · have HE := Lib.hid (show R = ([], e1) by rw [HR4.out, if_pos (by simpa using he1)])
            have he1' : (e1 != 0) = true := by simp [he1]
            clear HR4 he1
            go_wp2
            go_ret2
            rw [HE.out]
            exact ⟨B5, none, 0, rfl, Sl.nil_⟩
      · intro K hK
        go_simp
        obtain ⟨wm, hwm⟩ : ∃ W, W = wn.alloc (.cells #[.int .i64 0, .int .i64 0, .int .i64 0, .int .i64 0, .int .i64 0, .int .i64 0] 25) := ⟨_, rfl⟩
        have HZ : BC wm wn.heap.size (mtC zeroM) := by rw [hwm]; exact BC.new (mtC zeroM) 25 rfl
        have Hn : Below w4.heap.size w4 wm := by rw [hwm]; exact bal HB _
        have hgm := HB.size
        obtain ⟨gM, hgM⟩ : ∃ g, g = wn.heap.size := ⟨_, rfl⟩
        rw [← hwm, ← hgM]
        rw [← hgM] at HZ hgm
        refine hK.out _ _ (HG.out _ Hn) ?_
        clear hK K HB hwm hgM
        obtain ⟨wn, hwn⟩ : ∃ W, W = wm := ⟨_, rfl⟩
        rw [← hwn] at Hn HZ ⊢
        have HB := Hn
        clear Hn hwn
        try simp only
        have hS := HG.out _ HB
        refine ord_one 2 rfl (by kernel_rfl) rfl ?_
        intro K hK
        go_simp
        refine (HMo.out _).mono ?_; rintro e wn ⟨rfl, hbn⟩
        have Hn := btr HB hbn
        refine hK.out _ _ (HG.out _ Hn) ?_
        clear hK K HB
        have HB := Hn
        clear Hn
        try simp only
        have hS := HG.out _ HB
        replace HZ := HZ.below hbn
        clear hbn
        refine ord_one 4 rfl (by kernel_rfl) rfl ?_
        intro K hK
        go_simp
        refine (HMu1.out _).mono ?_; rintro e wn ⟨rfl, hbn⟩
        have Hn := btr HB hbn
        refine hK.out _ _ (HG.out _ Hn) ?_
        clear hK K HB
        have HB := Hn
        clear Hn
        try simp only
        have hS := HG.out _ HB
        replace HZ := HZ.below hbn
        refine ord_take (v := ?_) 5 rfl rfl (by kernel_rfl) (by kernel_rfl) (fun _ _ _ h => h) (Or.inl ⟨by rfl, ?_⟩) hS ?_
        rotate_left
        · rintro W ⟨y, rfl⟩
          go_simp
          (try with_reducible rfl)
        simp only [Act.put, List.setIfInBounds_toArray, List.set_cons_zero, List.set_cons_succ]
        refine ord_take (v := ?_) 6 rfl rfl (by kernel_rfl) (by kernel_rfl) (fun _ _ _ h => h) (Or.inl ⟨by rfl, ?_⟩) hS ?_
        rotate_left
        · rintro W ⟨y, rfl⟩
          go_simp
          (try with_reducible rfl)
        simp only [Act.put, List.setIfInBounds_toArray, List.set_cons_zero, List.set_cons_succ]
        refine ord_take (v := ?_) 7 rfl rfl (by kernel_rfl) (by kernel_rfl) (fun _ _ _ h => h) (Or.inl ⟨by rfl, ?_⟩) hS ?_
        rotate_left
        · rintro W ⟨y, rfl⟩
          go_simp
          (try with_reducible rfl)
        simp only [Act.put, List.setIfInBounds_toArray, List.set_cons_zero, List.set_cons_succ]
        clear hS
        refine ord_one 9 rfl (by kernel_rfl) rfl ?_
        intro K hK
        rw [if_pos (by rfl)]
        refine wp_store_mid 25 _ _ rfl gM 0 (mtC M1).toArray rfl rfl HZ.there (by kernel_rfl) (all_oneCell_toArray (mtC_oneR M1)) ?_
        refine hK.out _ _ (HG.out _ (below_setCells hgm _ _ _ HB)) ?_
        clear hK K
        try simp only
        obtain ⟨w5, hw5⟩ : ∃ W, W = wn.setCells gM 0 (mtC M1) := ⟨_, rfl⟩
        have Q5 : Below w4.heap.size w4 w5 := by rw [hw5]; exact below_setCells hgm _ _ _ HB
        have hM5 : BC w5 gM (mtC M1) := by rw [hw5]; exact HZ.putAll _ rfl
        have hw5' : wn.setCells gM 0 (mtC M1).toArray.toList = w5 := hw5.symm
        rw [hw5']
        have hS := HG.out _ Q5
        refine ord_take (v := ?_) 10 rfl rfl (by kernel_rfl) (by kernel_rfl) (fun _ _ _ h => h) (Or.inl ⟨by rfl, ?_⟩) hS ?_
        rotate_left
        · rintro W ⟨y, rfl⟩
          go_simp
          (try with_reducible rfl)
        simp only [Act.put, List.setIfInBounds_toArray, List.set_cons_zero, List.set_cons_succ]
        clear hS
        refine ⟨by kernel_rfl, ?_⟩
        refine NoPanic.normal ?_
        clear hw5 hw5' HZ HB HG HMo HMu1
        have B5 := btr B4 Q5
        have hA5 := hA4.below Q5
        by_cases he1 : e1 = 0
        · have HR5 : Hid (R = if e2 ≠ 0 then ([], e2) else plL M2 [] L) := Lib.hid (by rw [HR4.out, if_neg (by simpa using he1)])
          have he1' : (e1 != 0) = false := by simp [he1]
          clear he1 HR4
          go_wp2_with (first
            | (refine wpList_load_foM rfl _ _ rfl w.heap.size rfl F.m _ _ _ matT2 hA5 ?_)
            | (refine wpList_load_rec rfl _ _ rfl gM rfl _ 6 matT2 hM5 rfl ?_)
            | fail)
          refine (HMu2.out _).mono ?_; rintro e w6 ⟨rfl, b6⟩
          have Q6 := btr Q5 b6
          have hM6 := hM5.below b6
          obtain ⟨w7, hw7⟩ : ∃ W, W = w6.setCells gM 0 (mtC M2) := ⟨_, rfl⟩
          have HW7 := Lib.hid hw7
          have Q7 : Below w4.heap.size w4 w7 := by rw [hw7]; exact below_setCells hgm _ _ _ Q6
          have hM7 : BC w7 gM (mtC M2) := by rw [hw7]; exact hM6.putAll _ rfl
          have B7 := btr B4 Q7
          have hs7 := hs4.below Q7
          clear hw7 b6 Q6 hA5 hM5 HMu2
          by_cases he2 : e2 = 0
          · have HR6 : Hid (R = plL M2 [] L) := Lib.hid (by rw [HR5.out, if_neg (by simpa using he2)])
            have he2' : (e2 != 0) = false := by simp [he2]
            have HMV := Lib.hid (moved_any M2 A3 n c3 L R w7 hs7 hm3.out HR6.out.symm)
            simp only [vm] at HMV
            clear he2 HR5 hs7
            go_wp2_with (first
              | (refine wpList_store_rec rfl _ _ _ rfl gM (mtC M2) _ rfl rfl 6 matT2 hM6 rfl rfl (mtC_oneR _) ?_; rw [← HW7.out])
              | (refine wpList_load_rec rfl _ _ rfl gM rfl _ 6 matT2 hM7 rfl ?_)
              | fail)
            refine HMV.out.mono ?_; rintro e w8 ⟨b8, A8, c8, rfl, ho8⟩
            go_wp2
            go_ret2
            exact ⟨btr B7 b8, A8, c8, rfl, own_sl ho8⟩
          · have HE := Lib.hid (show R = ([], e2) by rw [HR5.out, if_pos (by simpa using he2)])
            have he2' : (e2 != 0) = true := by simp [he2]
            clear HR5 he2
            go_wp2_with (first
              | (refine wpList_store_rec rfl _ _ _ rfl gM (mtC M2) _ rfl rfl 6 matT2 hM6 rfl rfl (mtC_oneR _) ?_; rw [← HW7.out])
              | fail)
            go_ret2
            rw [HE.out]
            exact ⟨B7, none, 0, rfl, Sl.nil_⟩
        · have HE := Lib.hid (show R = ([], e1) by rw [HR4.out, if_pos (by simpa using he1)])
          have he1' : (e1 != 0) = true := by simp [he1]
          clear HR4 he1
          go_wp2
          go_ret2
          rw [HE.out]
          exact ⟨B5, none, 0, rfl, Sl.nil_⟩
    · have HE := Lib.hid (show R = ([], 16) by rw [HR2.out, HRF2.out, if_neg he]; rfl)
      have he' : (er != 0) = true := by simp [he]
      clear HR2 HRF2 he
      go_wp2
      go_ret2
      rw [HE.out]
      exact ⟨B4, none, 0, rfl, Sl.nil_⟩
end Go.Proofs.YtaphmonpdnbiiaaGreat
