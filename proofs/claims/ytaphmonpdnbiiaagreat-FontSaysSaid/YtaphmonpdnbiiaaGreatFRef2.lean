/- tympanref40: Letter, Kern. -/
import Derived.Test.YtaphmonpdnbiiaaGreatFontLe
import Derived.Test.YtaphmonpdnbiiaaGreatFRef1
import Derived.Test.YtaphmonpdnbiiaaGreatMF2
namespace Go.Proofs.YtaphmonpdnbiiaaGreat
open Go.RowKit Go.BigFrame

def leN (s : ByteArray) (x : Le) : Bool := decide (x.name = s)
set_option maxRecDepth 100000 in
set_option maxHeartbeats 4000000 in
theorem rLetter_any (F : Fo) (C : List Value) (c : Nat) (w : World) (hc : c < 256) (h : FoAt w F C) : Calls Tryz.prog 17 #[.agg C.toArray, .int .u8 c] w fun e w' => e = .returned (letV (letterF F c)) ∧ Below w.heap.size w w' := by
  have HO := Lib.hid fun W (hb : Below w.heap.size w W) => rFontMay_any F C W (h.below hb)
  have HN := Lib.hid fun W (hb : Below w.heap.size w W) => rname_any F C c W hc (h.below hb)
  obtain ⟨ok, A, B, E, ca, cb, ce, rfl, h1, h2, h3⟩ := h
  have hll := ok.ll
  obtain ⟨w0, hw0⟩ : ∃ w0 : World, w0 = (w.alloc (.cells (foC F.m (.slice A F.names.length ca) (.slice B F.lets.length cb) (.slice E F.kern.length ce)).toArray 30)).alloc (.cells #[.string { data := #[] }, .string { data := #[] }] 48) := ⟨_, rfl⟩
  have hB0 : Below w.heap.size w w0 := by rw [hw0]; exact bal (bal (Below.refl _ _) _) _
  have hA : BC w0 w.heap.size (foC F.m (.slice A F.names.length ca) (.slice B F.lets.length cb) (.slice E F.kern.length ce)) := by rw [hw0]; exact (BC.new _ 30 rfl).below (bal (Below.refl _ _) _)
  have hZ : BC w0 (w.heap.size + 1) (lec le0) := by rw [hw0]; exact BC.new (w := w.alloc _) (lec le0) 48 (by simp)
  have hs2 := h2.below hB0
  obtain ⟨n2, hn2⟩ : ∃ n, F.lets.length = n := ⟨_, rfl⟩
  have HN2 := Lib.hid hn2
  rw [hn2] at hw0 hA hs2 hll HO HN
  obtain ⟨Y, hY⟩ : ∃ Y, letterF F c = Y := ⟨_, rfl⟩
  have HY := Lib.hid hY
  rw [hY, letV_eq, hn2]
  obtain ⟨s, hs⟩ : ∃ s, nameF F c = s := ⟨_, rfl⟩
  have HS := Lib.hid hs
  rw [hs] at HN
  clear h1 h2 h3 ok hY hs hn2
  go_enter Tryz.func17, Tryz.ntmps17
  go_upto_region 1 with (fail)
  rw [← hw0]
  clear hw0
  go_wp2_with (first
    | (refine wpList_load_rec rfl _ _ rfl w.heap.size rfl _ 9 foT hA rfl ?_)
    | fail)
  refine (HN.out _ hB0).mono ?_; rintro e w1 ⟨rfl, hb1⟩
  have B1 := btr hB0 hb1
  have hA1 := hA.below hb1
  have hZ1 := hZ.below hb1
  have hs2a := hs2.below hb1
  clear hA hZ hb1 hB0 HN hs2
  go_wp2_with (first
    | (refine wpList_load_rec rfl _ _ rfl w.heap.size rfl _ 9 foT hA1 rfl ?_)
    | fail)
  refine (HO.out _ B1).mono ?_; rintro e w2 ⟨rfl, hb2⟩
  have B2 := btr B1 hb2
  have hA2 := hA1.below hb2
  have hZ2 := hZ1.below hb2
  have hs2b := hs2a.below hb2
  clear hA1 hZ1 hb2 B1 HO hs2a
  cases hf : openB F
  · have HE := Lib.hid (show Y = none by rw [← HY.out]; exact letterF_shut hf)
    have hF := hZ2.putAll (lec le0) rfl
    have hFB := below_setCells (show w.heap.size ≤ w.heap.size + 1 by omega) (lec le0) 0 _ B2
    go_wp2_with (first
      | (refine wpList_store_rec rfl _ _ _ rfl (w.heap.size + 1) (lec le0) _ rfl rfl 2 letT hZ2 rfl rfl (lec_one _) ?_)
      | fail)
    refine bodyPost_ret (result_rec rfl rfl rfl letT hF rfl) rfl ?_
    rw [HE.out]
    exact ⟨rfl, hFB⟩
  by_cases gs : s = ByteArray.empty
  · have HE := Lib.hid (show Y = none by rw [← HY.out]; exact letterF_no hf (by rw [HS.out, gs]))
    have gs' : s.toList.isEmpty = true := by rw [str_em]; exact decide_eq_true gs
    clear gs
    have hF := hZ2.putAll (lec le0) rfl
    have hFB := below_setCells (show w.heap.size ≤ w.heap.size + 1 by omega) (lec le0) 0 _ B2
    go_wp2_with (first
      | (refine wpList_store_rec rfl _ _ _ rfl (w.heap.size + 1) (lec le0) _ rfl rfl 2 letT hZ2 rfl rfl (lec_one _) ?_)
      | fail)
    refine bodyPost_ret (result_rec rfl rfl rfl letT hF rfl) rfl ?_
    rw [HE.out]
    exact ⟨rfl, hFB⟩
  have gs' : s.toList.isEmpty = false := by rw [str_em]; exact decide_eq_false gs
  have HF := Lib.hid (show Y = F.lets.find? (leN s) by rw [← HY.out, letterF_yes hf, HS.out]; rfl)
  have a7 := hA2.c 7 _ rfl
  clear gs hf HY HS
  go_wp2_with fail
  go_loopw [7] (fun i wr => ∃ j, j ≤ n2 ∧ i = .int .i64 (j : Int) ∧ Below w2.heap.size w2 wr ∧ Hid ((F.lets.take j).find? (leN s) = none)) (fun i _ => n2 - (intOf i).toNat)
  case atStart => exact ⟨0, by omega, rfl, Below.refl _ _, Lib.hid rfl⟩
  case round =>
    obtain ⟨wo, rfl⟩ : ∃ wo : World, wo = wr := ⟨_, rfl⟩
    obtain ⟨j, hj, rfl, hbr, hal⟩ := hrel
    have hZo := hZ2.below hbr
    have Bo := btr B2 hbr
    have a7o := (hA2.below hbr).c 7 _ rfl
    by_cases hjt : j < n2
    · have hjj : j < F.lets.length := by rw [HN2.out]; exact hjt
      obtain ⟨b, off, rfl, hb, d0, d1⟩ := (hs2b.below hbr).le j hjt hjj
      have hyes := find_yes (f := leN s) hjj hal.out
      have hno := find_no (f := leN s) hjj hal.out
      obtain ⟨x, hx⟩ : ∃ x, x = F.lets[j] := ⟨_, rfl⟩
      rw [← hx] at d0 d1 hyes hno
      have HYES := Lib.hid hyes
      have HNO := Lib.hid hno
      clear hx hyes hno
      by_cases hq : x.name = s
      · have HE := Lib.hid (show Y = some x by rw [HF.out, HYES.out (by unfold leN; exact decide_eq_true hq)])
        have hq' : (x.name.toList == s.toList) = true := by rw [str_eq]; exact decide_eq_true hq
        have hF := hZo.putAll (lec x) rfl
        have hFB := below_setCells (show w.heap.size ≤ w.heap.size + 1 by omega) (lec x) 0 _ Bo
        clear hq
        go_wp2_with (first
          | (refine wpList_store_rec rfl _ _ _ rfl (w.heap.size + 1) (lec x) _ rfl rfl 2 letT hZo rfl rfl (lec_one _) ?_)
          | fail)
        refine bodyPost_ret (result_rec rfl rfl rfl letT hF rfl) rfl ?_
        rw [HE.out]
        exact ⟨rfl, hFB⟩
      · have HA2 := Lib.hid (HNO.out (by unfold leN; exact decide_eq_false hq))
        have hq' : (x.name.toList == s.toList) = false := by rw [str_eq]; exact decide_eq_false hq
        clear hq
        go_wp2_with fail
        go_roundw
        case rel => exact ⟨j + 1, by omega, by go_num, hbr, HA2⟩
        case measure => (simp [intOf]) <;> omega
    · obtain rfl : j = n2 := by omega
      have hall := hal.out
      rw [List.take_of_length_le (by rw [HN2.out]; omega)] at hall
      have HE := Lib.hid (show Y = none by rw [HF.out, hall])
      clear hall hal
      have hF := hZo.putAll (lec le0) rfl
      have hFB := below_setCells (show w.heap.size ≤ w.heap.size + 1 by omega) (lec le0) 0 _ Bo
      go_wp2_with (first
        | (refine wpList_store_rec rfl _ _ _ rfl (w.heap.size + 1) (lec le0) _ rfl rfl 2 letT hZo rfl rfl (lec_one _) ?_)
        | fail)
      refine bodyPost_ret (result_rec rfl rfl rfl letT hF rfl) rfl ?_
      rw [HE.out]
      exact ⟨rfl, hFB⟩
set_option maxRecDepth 100000 in
set_option maxHeartbeats 4000000 in
theorem rKern_any (F : Fo) (C : List Value) (a b : Nat) (w : World) (ha : a < 256) (hb : b < 256) (h : FoAt w F C) : Calls Tryz.prog 24 #[.agg C.toArray, .int .u8 a, .int .u8 b] w fun e w' => e = .returned (.int .i64 (if openB F then kernF F a b else 0)) ∧ Below w.heap.size w w' := by
  have hh := h
  have HO := Lib.hid fun W (hb : Below w.heap.size w W) => rFontMay_any F C W (h.below hb)
  obtain ⟨ok, A, B, E, ca, cb, ce, rfl, h1, h2, h3⟩ := h
  obtain ⟨w0, hw0⟩ : ∃ w0 : World, w0 = w.alloc (.cells (foC F.m (.slice A F.names.length ca) (.slice B F.lets.length cb) (.slice E F.kern.length ce)).toArray 30) := ⟨_, rfl⟩
  have hB0 : Below w.heap.size w w0 := by rw [hw0]; exact bal (Below.refl _ _) _
  have hA : BC w0 w.heap.size (foC F.m (.slice A F.names.length ca) (.slice B F.lets.length cb) (.slice E F.kern.length ce)) := by rw [hw0]; exact BC.new _ 30 rfl
  have hkl := ok.kl
  have hs3 := h3.below hB0
  have hFo : FoAt w F (foC F.m (.slice A F.names.length ca) (.slice B F.lets.length cb) (.slice E F.kern.length ce)) := hh
  have HN := Lib.hid fun (c : Nat) (hc : c < 256) W (hb : Below w0.heap.size w0 W) => rname_any F _ c W hc (hFo.below (btr hB0 hb))
  clear hh hFo
  obtain ⟨n3, hn3⟩ : ∃ n, F.kern.length = n := ⟨_, rfl⟩
  have HN3 := Lib.hid hn3
  rw [hn3] at hkl hs3 hw0 hA HN HO
  rw [hn3]
  clear hn3 h1 h2 h3 ok
  obtain ⟨R, hR⟩ : ∃ R, (if openB F then kernF F a b else 0) = R := ⟨_, rfl⟩
  rw [hR]
  obtain ⟨sa, hsa⟩ : ∃ s, nameF F a = s := ⟨_, rfl⟩
  obtain ⟨sb, hsb⟩ : ∃ s, nameF F b = s := ⟨_, rfl⟩
  have HR2 : Hid (R = if openB F then (if sa.toList.isEmpty || sb.toList.isEmpty then 0 else ((F.kern.find? (prB sa sb)).map Pr.mv).getD 0) else 0) := Lib.hid (by rw [← hR, ← hsa, ← hsb, str_em, str_em]; rfl)
  have HNa := Lib.hid (HN.out a ha)
  have HNb := Lib.hid (HN.out b hb)
  rw [hsa] at HNa
  rw [hsb] at HNb
  clear hsa hsb HN ha hb hR
  have HA := Lib.hid fun (W : World) (hW : ∃ y : Grown w0, W = y.world) => (show BC W w.heap.size _ by obtain ⟨y, rfl⟩ := hW; exact hA.below y.below)
  go_enter Tryz.func24, Tryz.ntmps24
  go_upto_region 1 with (fail)
  rw [← hw0]
  clear hw0
  refine wp_region_ord (fun W => ∃ y : Grown w0, W = y.world) [] 8 (by kernel_rfl) (by kernel_rfl) ⟨⟨_, bdrew (Below.refl _ _)⟩, rfl⟩ ?_
  intro hS
  refine ord_take 0 rfl rfl (by kernel_rfl) (by kernel_rfl) (fun _ _ _ h => h) (yieldsIf_rec (by rfl) _ _ rfl _ rfl _ 9 foT HA.out rfl) hS ?_
  simp only [Act.put, List.setIfInBounds_toArray, List.set_cons_zero, List.set_cons_succ]
  refine ord_take (v := ?_) 1 rfl rfl (by kernel_rfl) (by kernel_rfl) (fun _ _ _ h => h) (Or.inl ⟨by rfl, ?_⟩) hS ?_
  rotate_left
  · rintro W ⟨y, rfl⟩
    go_simp
    (try with_reducible rfl)
  simp only [Act.put, List.setIfInBounds_toArray, List.set_cons_zero, List.set_cons_succ]
  refine ord_take 3 rfl rfl (by kernel_rfl) (by kernel_rfl) (fun _ _ _ h => h) (yieldsIf_rec (by rfl) _ _ rfl _ rfl _ 9 foT HA.out rfl) hS ?_
  simp only [Act.put, List.setIfInBounds_toArray, List.set_cons_zero, List.set_cons_succ]
  refine ord_take (v := ?_) 4 rfl rfl (by kernel_rfl) (by kernel_rfl) (fun _ _ _ h => h) (Or.inl ⟨by rfl, ?_⟩) hS ?_
  rotate_left
  · rintro W ⟨y, rfl⟩
    go_simp
    (try with_reducible rfl)
  simp only [Act.put, List.setIfInBounds_toArray, List.set_cons_zero, List.set_cons_succ]
  have HG := Lib.hid (fun (W : World) (hW : Below w0.heap.size w0 W) => (⟨⟨W, hW⟩, rfl⟩ : ∃ y : Grown w0, W = y.world))
  have HB := bdrew (Below.refl w0.heap.size w0)
  clear hS
  refine ord_one 2 rfl (by kernel_rfl) rfl ?_
  intro K hK
  go_simp
  refine (HNa.out _ HB).mono ?_; rintro e wn ⟨rfl, hbn⟩
  have Hn := btr HB hbn
  refine hK.out _ _ (HG.out _ Hn) ?_
  clear hK K HB hbn
  have HB := Hn
  clear Hn
  try simp only
  have hS := HG.out _ HB
  clear hS
  refine ord_one 5 rfl (by kernel_rfl) rfl ?_
  intro K hK
  go_simp
  refine (HNb.out _ HB).mono ?_; rintro e wn ⟨rfl, hbn⟩
  have Hn := btr HB hbn
  refine hK.out _ _ (HG.out _ Hn) ?_
  clear hK K HB hbn
  have HB := Hn
  clear Hn
  try simp only
  have hS := HG.out _ HB
  refine ord_take (v := ?_) 6 rfl rfl (by kernel_rfl) (by kernel_rfl) (fun _ _ _ h => h) (Or.inl ⟨by rfl, ?_⟩) hS ?_
  rotate_left
  · rintro W ⟨y, rfl⟩
    go_simp
    (try with_reducible rfl)
  simp only [Act.put, List.setIfInBounds_toArray, List.set_cons_zero, List.set_cons_succ]
  refine ord_take (v := ?_) 7 rfl rfl (by kernel_rfl) (by kernel_rfl) (fun _ _ _ h => h) (Or.inl ⟨by rfl, ?_⟩) hS ?_
  rotate_left
  · rintro W ⟨y, rfl⟩
    go_simp
    (try with_reducible rfl)
  simp only [Act.put, List.setIfInBounds_toArray, List.set_cons_zero, List.set_cons_succ]
  clear hS
  refine ⟨by kernel_rfl, ?_⟩
  refine NoPanic.normal ?_
  have hA1 := hA.below HB
  have B1 := btr hB0 HB
  replace hs3 := hs3.below HB
  obtain ⟨w1, hw1⟩ : ∃ w1 : World, w1 = wn := ⟨_, rfl⟩
  rw [← hw1] at hA1 B1 hs3 ⊢
  clear HG HA hA HNa HNb hB0 HB hw1
  go_wp2_with (first
    | (refine wpList_load_rec rfl _ _ rfl w.heap.size rfl _ 9 foT hA1 rfl ?_)
    | fail)
  refine (HO.out _ B1).mono ?_; rintro e w2 ⟨rfl, hb2⟩
  have B2 := btr B1 hb2
  have hA2 := hA1.below hb2
  replace hs3 := hs3.below hb2
  have a8 := hA2.c 8 _ rfl
  clear hA1 B1 hb2 HO
  cases hf : openB F
  · have HE := Lib.hid (show R = 0 by rw [HR2.out, hf]; rfl)
    clear HR2 hf
    go_wp2
    go_ret
    exact ⟨by rw [HE.out]; rfl, B2⟩
  rw [hf, if_pos rfl] at HR2
  clear hf
  cases ga : sa.toList.isEmpty
  · cases gb : sb.toList.isEmpty
    · have HE := Lib.hid (show R = ((F.kern.find? (prB sa sb)).map Pr.mv).getD 0 by rw [HR2.out, ga, gb]; rfl)
      clear HR2
      go_wp2_with fail
      go_loopw [9] (fun i wr => ∃ k, k ≤ n3 ∧ i = .int .i64 (k : Int) ∧ Below w2.heap.size w2 wr ∧ Hid ((F.kern.take k).find? (prB sa sb) = none)) (fun i _ => n3 - (intOf i).toNat)
      case atStart => exact ⟨0, by omega, rfl, Below.refl _ _, Lib.hid rfl⟩
      case round =>
        obtain ⟨wo, rfl⟩ : ∃ wo : World, wo = wr := ⟨_, rfl⟩
        obtain ⟨k, hk, rfl, hbr, hal⟩ := hrel
        have a8o := (hA2.below hbr).c 8 _ rfl
        by_cases hlt : k < n3
        · have hkk : k < F.kern.length := by rw [HN3.out]; exact hlt
          obtain ⟨b, off, rfl, hb, d0, d1, d2⟩ := (hs3.below hbr).pr k hlt hkk
          obtain ⟨x, hx⟩ : ∃ x, x = F.kern[k] := ⟨_, rfl⟩
          have hyes := find_yes (f := prB sa sb) hkk hal.out
          have hno := find_no (f := prB sa sb) hkk hal.out
          rw [← hx] at d0 d1 d2 hno hyes
          have HNO := Lib.hid hno
          have HYES := Lib.hid hyes
          clear hx hno hyes
          by_cases e1 : x.a = sa
          · by_cases e2 : x.b = sb
            · have HE2 := Lib.hid (show R = x.mv by rw [HE.out, HYES.out (by unfold prB; rw [decide_eq_true e1, decide_eq_true e2]; rfl)]; rfl)
              have e1' : (x.a.toList == sa.toList) = true := by rw [str_eq]; exact decide_eq_true e1
              have e2' : (x.b.toList == sb.toList) = true := by rw [str_eq]; exact decide_eq_true e2
              clear HNO HYES e1 e2 HE
              go_wp2
              go_ret
              exact ⟨by rw [HE2.out]; rfl, btr B2 hbr⟩
            · have HF2 := Lib.hid (HNO.out (by unfold prB; rw [decide_eq_false e2, Bool.and_false]))
              have e1' : (x.a.toList == sa.toList) = true := by rw [str_eq]; exact decide_eq_true e1
              have e2' : (x.b.toList == sb.toList) = false := by rw [str_eq]; exact decide_eq_false e2
              clear HNO HYES e1 e2
              go_wp2_with fail
              go_roundw
              case rel => exact ⟨k + 1, by omega, by go_num, hbr, HF2⟩
              case measure => (simp [intOf]) <;> omega
          · have HF2 := Lib.hid (HNO.out (by unfold prB; rw [decide_eq_false e1, Bool.false_and]))
            have e1' : (x.a.toList == sa.toList) = false := by rw [str_eq]; exact decide_eq_false e1
            clear HNO HYES e1
            go_wp2_with fail
            go_roundw
            case rel => exact ⟨k + 1, by omega, by go_num, hbr, HF2⟩
            case measure => (simp [intOf]) <;> omega
        · obtain rfl : k = n3 := by omega
          have hall := hal.out
          rw [List.take_of_length_le (by rw [HN3.out]; omega)] at hall
          have HE2 := Lib.hid (show R = 0 by rw [HE.out, hall]; rfl)
          clear hall hal HE
          go_wp2
          go_ret
          exact ⟨by rw [HE2.out]; rfl, btr B2 hbr⟩
    · have HE := Lib.hid (show R = 0 by rw [HR2.out, gb, Bool.or_true]; rfl)
      clear HR2
      go_wp2
      go_ret
      exact ⟨by rw [HE.out]; rfl, B2⟩
  · have HE := Lib.hid (show R = 0 by rw [HR2.out, ga]; rfl)
    clear HR2
    go_wp2
    go_ret
    exact ⟨by rw [HE.out]; rfl, B2⟩
end Go.Proofs.YtaphmonpdnbiiaaGreat
