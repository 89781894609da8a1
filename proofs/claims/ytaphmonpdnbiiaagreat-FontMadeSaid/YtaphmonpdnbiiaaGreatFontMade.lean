/- FontMade: the walk. -/
import Derived.Test.YtaphmonpdnbiiaaGreatFontMkP
import Derived.Test.YtaphmonpdnbiiaaGreatFRef5
namespace Go.Proofs.YtaphmonpdnbiiaaGreat
open Go.RowKit Go.BigFrame

set_option maxRecDepth 100000 in
set_option maxHeartbeats 8000000 in
theorem FontMade_any (A : Option Addr) (n c : Nat) (A' : Option Addr) (n' c' : Nat) (x y : Int) (A'' : Option Addr) (n'' c'' : Nat) (w : World) (h : InA w A n) (hnc : n ≤ c) (hcm : c ≤ 9223372036854775807)
    (h' : InA w A' n') (hnc' : n' ≤ c') (hcm' : c' ≤ 9223372036854775807) (h'' : InA w A'' n'') (hnc'' : n'' ≤ c'') (hcm'' : c'' ≤ 9223372036854775807) :
    Calls Tryz.prog 3 #[.slice A n c, .slice A' n' c', .int .i64 x, .int .i64 y, .slice A'' n'' c''] w fun e w' => e = .returned (.bool true) ∧ Below w.heap.size w w' := by
  obtain ⟨zs, hz⟩ := h.sl
  obtain ⟨ts, ht⟩ := h'.sl
  obtain ⟨us, hu⟩ := h''.sl
  have HMD := Lib.hid fun W (hb : Below w.heap.size w W) => Made41_any A n c zs W hnc hcm (hz.below hb)
  have HTX := Lib.hid fun W (hb : Below w.heap.size w W) => text_any A' n' c' ts W hnc' hcm' (ht.below hb)
  have HUN := Lib.hid fun W (hb : Below w.heap.size w W) => Unit_any A'' n'' c'' us W hnc'' hcm'' (hu.below hb)
  clear h h' hnc hcm hnc' hcm' hz ht h'' hnc'' hcm'' hu
  go_enter Tryz.func3, Tryz.ntmps3
  go_wp2_with fail
  refine (known41_any _).mono ?_; rintro e w1 ⟨rfl, b1⟩
  go_wp2_with fail
  refine (HMD.out _ b1).mono ?_; rintro e w2 ⟨F, C, rfl, hFo, hMF, b2⟩
  have B2 := btr b1 b2
  go_wp2_with fail
  refine (HTX.out _ B2).mono ?_; rintro e w3 ⟨s, rfl, hbs, b3⟩
  have B3 := btr B2 b3
  go_wp2_with fail
  refine (HUN.out _ B3).mono ?_; rintro e w4 ⟨ma, mb, mc, md, rfl, ⟨y1, y2, y3, y4⟩, b4⟩
  have B4 := btr B3 b4
  have hFo4 := (hFo.below b3).below b4
  have h9 := hFo4.len
  have h1c := one_foC hFo4
  obtain ⟨MM, hMM⟩ : ∃ M, M = wholeM ma mb mc md 0 0 := ⟨_, rfl⟩
  have hmm : mtB MM = true := by rw [hMM]; exact whole_may (by unfold Bd at *; omega) (by unfold Bd at *; omega) (by unfold Bd at *; omega) (by unfold Bd at *; omega) (by unfold Bd; omega) (by unfold Bd; omega)
  rw [← hMM]
  clear hMM y1 y2 y3 y4
  obtain ⟨w5, w6, hw5, hw6, Z0, Z1, F6, M6, b6⟩ := put_FM (W := w4) MM h9
  have HW5 := Lib.hid hw5
  have HW6 := Lib.hid hw6
  have B6 := btr B4 b6
  have hFo6 := hFo4.below b6
  have hvm : mtv MM = .agg (mtC MM).toArray := rfl
  rw [hvm]
  have hz1 : foZ.toArray = #[.int .i64 0, .int .i64 0, .int .i64 0, .int .i64 0, .int .i64 0, .int .i64 0, .slice none 0 0, .slice none 0 0, .slice none 0 0] := rfl
  have hz2 : (mtC zeroM).toArray = #[.int .i64 0, .int .i64 0, .int .i64 0, .int .i64 0, .int .i64 0, .int .i64 0] := rfl
  rw [hz1, hz2] at Z0 HW5
  clear hw5 hw6 hvm hz1 hz2 b1 b2 b3 b4 hFo B2 B3
  go_upto_region 4 with (first
    | (refine wpList_store_rec rfl _ _ _ rfl w4.heap.size C _ rfl rfl 9 foT Z0 rfl h9 h1c ?_; rw [← HW5.out])
    | (refine wpList_store_rec rfl _ _ _ rfl (w4.heap.size + 1) (mtC MM) _ rfl rfl 6 matT2 Z1 rfl rfl (mtC_oneR _) ?_; rw [← HW6.out])
    | fail)
  obtain ⟨gM, hgM⟩ : ∃ g, g = w4.heap.size + 1 := ⟨_, rfl⟩
  rw [← hgM] at M6 ⊢
  obtain ⟨gF, hgF⟩ : ∃ g, g = w4.heap.size := ⟨_, rfl⟩
  rw [← hgF] at F6 ⊢
  clear hgM hgF Z0 Z1 HW5 HW6 b6 h1c
  obtain ⟨p, hp0, hp1, hp2⟩ := small_bd x
  obtain ⟨q, hq0, hq1, hq2⟩ := small_bd y
  have HSX := Lib.hid fun W => small_any x W
  have HSY := Lib.hid fun W => small_any y W
  rw [hp0] at HSX
  rw [hq0] at HSY
  have hs8 : s.size ≤ 8 := by have := textN_len ts; rw [← hbs, bl_len] at this; exact this
  obtain ⟨hMP, hE3, hE4⟩ := made_law (s := bl s) hMF hmm (fix_p (p := p) (by unfold Bd; omega)) (fix_p (p := q) (by unfold Bd; omega)) (by rw [hbs]; exact textN_lt ts) (by rw [bl_len]; exact hs8)
  obtain ⟨s3, hs3⟩ : ∃ t : ByteArray, t = s ++ { data := #[3] } := ⟨_, rfl⟩
  obtain ⟨s4, hs4⟩ : ∃ t : ByteArray, t = { data := #[4] } ++ s := ⟨_, rfl⟩
  have hb3 : bl s3 = bl s ++ [3] := by rw [hs3, bl_add]; rfl
  have hb4 : bl s4 = 4 :: bl s := by rw [hs4, bl_add]; rfl
  have hz3 : s3.size ≤ 1000000 := by rw [← bl_len, hb3, List.length_append, bl_len]; simp; omega
  have hz4 : s4.size ≤ 1000000 := by rw [← bl_len, hb4, List.length_cons, bl_len]; omega
  have hz0 : s.size ≤ 1000000 := by omega
  have hcA : ¬ 9223372036854775807 < s.size + 1 := by omega
  have hcB : ¬ 9223372036854775807 < 1 + s.size := by omega
  rw [← hb3] at hE3
  rw [← hb4] at hE4
  obtain ⟨⟨⟨P, xR, yR⟩, er⟩, hR⟩ : ∃ R, outF F MM (p * 65536) (q * 65536) (bl s) = R := ⟨_, rfl⟩
  obtain ⟨⟨⟨P3, x3, y3⟩, e3⟩, hR3⟩ : ∃ R, outF F MM (p * 65536) (q * 65536) (bl s3) = R := ⟨_, rfl⟩
  obtain ⟨⟨⟨P4, x4, y4⟩, e4⟩, hR4⟩ : ∃ R, outF F MM (p * 65536) (q * 65536) (bl s4) = R := ⟨_, rfl⟩
  rw [hR] at hMP hE3
  rw [hR3] at hE3
  rw [hR4] at hE4
  simp only at hMP hE3 hE4
  have hPl : P.length ≤ 300 := may_len hMP
  have HFB := Lib.hid fun V (hV : Below w6.heap.size w6 V) => F6.below hV
  have HMB := Lib.hid fun V (hV : Below w6.heap.size w6 V) => M6.below hV
  have HFo := Lib.hid fun V (hV : Below w6.heap.size w6 V) => hFo6.below hV
  have HO1 := Lib.hid fun V (hV : Below w6.heap.size w6 V) => outline_any F C MM (p * 65536) (q * 65536) s ((P, xR, yR), er) V hz0 (HFo.out V hV) hR
  have HO2 := Lib.hid fun V (hV : Below w6.heap.size w6 V) => rOutline_any F C MM (p * 65536) (q * 65536) s ((P, xR, yR), er) V hz0 (HFo.out V hV) hR
  have HO3 := Lib.hid fun V (hV : Below w6.heap.size w6 V) => outline_any F C MM (p * 65536) (q * 65536) s3 ((P3, x3, y3), e3) V hz3 (HFo.out V hV) hR3
  have HO4 := Lib.hid fun V (hV : Below w6.heap.size w6 V) => outline_any F C MM (p * 65536) (q * 65536) s4 ((P4, x4, y4), e4) V hz4 (HFo.out V hV) hR4
  have HMY := Lib.hid fun V (hV : Below w6.heap.size w6 V) => fontMay_any F C V (HFo.out V hV)
  rw [hMF.open] at HMY
  obtain ⟨nP, hnP⟩ : ∃ n, n = P.length := ⟨_, rfl⟩
  simp only [vm] at HO1 HO2 HO3 HO4
  rw [← hnP] at HO1 HO2 hPl
  have hnP6 : nP ≤ 1000000 := by omega
  have HS3 := Lib.hid hs3
  have HS4 := Lib.hid hs4
  have HMP := Lib.hid hMP
  have HE3 := Lib.hid hE3
  have GR := Below.refl w6.heap.size w6
  clear hp0 hp1 hp2 hq0 hq1 hq2 hs8 hbs hs3 hs4 hb3 hb4 hz3 hz4 hz0 hR hR3 hR4 F6 M6 hFo6 hFo4 hMF hnP hMP hE3 HMD HTX HUN hmm HFo hPl
  refine wp_region_ord (fun W => ∃ y : Grown w6, W = y.world) [] 17 (by kernel_rfl) (by kernel_rfl) ⟨⟨_, bdrew (Below.refl _ _)⟩, rfl⟩ ?_
  intro hS
  have HAo := Lib.hid fun (V : World) (hV : ∃ y : Grown w6, V = y.world) => (show BC V gF C by obtain ⟨y, rfl⟩ := hV; exact HFB.out _ (btr GR y.below))
  have HMo := Lib.hid fun (V : World) (hV : ∃ y : Grown w6, V = y.world) => (show BC V gM (mtC MM) by obtain ⟨y, rfl⟩ := hV; exact HMB.out _ (btr GR y.below))
  have HG := Lib.hid (fun (V : World) (hV : Below w6.heap.size w6 V) => (⟨⟨V, hV⟩, rfl⟩ : ∃ y : Grown w6, V = y.world))
  have HB := bdrew (Below.refl w6.heap.size w6)
  refine ord_take 0 rfl rfl (by kernel_rfl) (by kernel_rfl) (fun _ _ _ h => h) (yieldsIf_rec (by rfl) _ _ rfl _ rfl _ 9 foT HAo.out h9) hS ?_
  simp only [Act.put, List.setIfInBounds_toArray, List.set_cons_zero, List.set_cons_succ]
  refine ord_take 1 rfl rfl (by kernel_rfl) (by kernel_rfl) (fun _ _ _ h => h) (yieldsIf_rec (by rfl) _ _ rfl _ rfl _ 6 matT2 HMo.out rfl) hS ?_
  simp only [Act.put, List.setIfInBounds_toArray, List.set_cons_zero, List.set_cons_succ]
  refine ord_take (v := ?_) 2 rfl rfl (by kernel_rfl) (by kernel_rfl) (fun _ _ _ h => h) (Or.inl ⟨by rfl, ?_⟩) hS ?_
  rotate_left
  · rintro W ⟨y, rfl⟩
    go_simp
    (try with_reducible rfl)
  simp only [Act.put, List.setIfInBounds_toArray, List.set_cons_zero, List.set_cons_succ]
  refine ord_take (v := ?_) 4 rfl rfl (by kernel_rfl) (by kernel_rfl) (fun _ _ _ h => h) (Or.inl ⟨by rfl, ?_⟩) hS ?_
  rotate_left
  · rintro W ⟨y, rfl⟩
    go_simp
    (try with_reducible rfl)
  simp only [Act.put, List.setIfInBounds_toArray, List.set_cons_zero, List.set_cons_succ]
  refine ord_take (v := ?_) 6 rfl rfl (by kernel_rfl) (by kernel_rfl) (fun _ _ _ h => h) (Or.inl ⟨by rfl, ?_⟩) hS ?_
  rotate_left
  · rintro W ⟨y, rfl⟩
    go_simp
    (try with_reducible rfl)
  simp only [Act.put, List.setIfInBounds_toArray, List.set_cons_zero, List.set_cons_succ]
  clear hS
  refine ord_one 3 rfl (by kernel_rfl) rfl ?_
  intro K hK
  go_simp
  refine (HSX.out _).mono ?_; rintro e w' ⟨rfl, rfl⟩
  refine hK.out _ _ (HG.out _ HB) ?_
  clear hK K
  try simp only
  have hS := HG.out _ HB
  clear hS
  refine ord_one 5 rfl (by kernel_rfl) rfl ?_
  intro K hK
  go_simp
  refine (HSY.out _).mono ?_; rintro e w' ⟨rfl, rfl⟩
  refine hK.out _ _ (HG.out _ HB) ?_
  clear hK K
  try simp only
  have hS := HG.out _ HB
  clear hS
  refine ord_one 7 rfl (by kernel_rfl) rfl ?_
  intro K hK
  go_simp
  refine (HO1.out _ (btr GR HB)).mono ?_; rintro e wn ⟨b8, A1, c1, rfl, hsa⟩
  have Hn := btr HB b8
  refine hK.out _ _ (HG.out _ Hn) ?_
  clear hK K HB b8
  have HB := Hn
  clear Hn
  try simp only
  have hS := HG.out _ HB
  refine ord_take (v := ?_) 8 rfl rfl (by kernel_rfl) (by kernel_rfl) (fun _ _ _ h => h) (Or.inl ⟨by rfl, ?_⟩) hS ?_
  rotate_left
  · rintro W ⟨y, rfl⟩
    go_simp
    (try with_reducible rfl)
  simp only [Act.put, List.setIfInBounds_toArray, List.set_cons_zero, List.set_cons_succ]
  refine ord_take (v := ?_) 9 rfl rfl (by kernel_rfl) (by kernel_rfl) (fun _ _ _ h => h) (Or.inl ⟨by rfl, ?_⟩) hS ?_
  rotate_left
  · rintro W ⟨y, rfl⟩
    go_simp
    (try with_reducible rfl)
  simp only [Act.put, List.setIfInBounds_toArray, List.set_cons_zero, List.set_cons_succ]
  refine ord_take (v := ?_) 10 rfl rfl (by kernel_rfl) (by kernel_rfl) (fun _ _ _ h => h) (Or.inl ⟨by rfl, ?_⟩) hS ?_
  rotate_left
  · rintro W ⟨y, rfl⟩
    go_simp
    (try with_reducible rfl)
  simp only [Act.put, List.setIfInBounds_toArray, List.set_cons_zero, List.set_cons_succ]
  refine ord_take (v := ?_) 11 rfl rfl (by kernel_rfl) (by kernel_rfl) (fun _ _ _ h => h) (Or.inl ⟨by rfl, ?_⟩) hS ?_
  rotate_left
  · rintro W ⟨y, rfl⟩
    go_simp
    (try with_reducible rfl)
  simp only [Act.put, List.setIfInBounds_toArray, List.set_cons_zero, List.set_cons_succ]
  refine ord_take (v := ?_) 12 rfl rfl (by kernel_rfl) (by kernel_rfl) (fun _ _ _ h => h) (Or.inl ⟨by rfl, ?_⟩) hS ?_
  rotate_left
  · rintro W ⟨y, rfl⟩
    go_simp
    (try with_reducible rfl)
  simp only [Act.put, List.setIfInBounds_toArray, List.set_cons_zero, List.set_cons_succ]
  refine ord_take (v := ?_) 13 rfl rfl (by kernel_rfl) (by kernel_rfl) (fun _ _ _ h => h) (Or.inl ⟨by rfl, ?_⟩) hS ?_
  rotate_left
  · rintro W ⟨y, rfl⟩
    go_simp
    (try with_reducible rfl)
  simp only [Act.put, List.setIfInBounds_toArray, List.set_cons_zero, List.set_cons_succ]
  refine ord_take (v := ?_) 14 rfl rfl (by kernel_rfl) (by kernel_rfl) (fun _ _ _ h => h) (Or.inl ⟨by rfl, ?_⟩) hS ?_
  rotate_left
  · rintro W ⟨y, rfl⟩
    go_simp
    (try with_reducible rfl)
  simp only [Act.put, List.setIfInBounds_toArray, List.set_cons_zero, List.set_cons_succ]
  refine ord_take (v := ?_) 15 rfl rfl (by kernel_rfl) (by kernel_rfl) (fun _ _ _ h => h) (Or.inl ⟨by rfl, ?_⟩) hS ?_
  rotate_left
  · rintro W ⟨y, rfl⟩
    go_simp
    (try with_reducible rfl)
  simp only [Act.put, List.setIfInBounds_toArray, List.set_cons_zero, List.set_cons_succ]
  refine ord_take (v := ?_) 16 rfl rfl (by kernel_rfl) (by kernel_rfl) (fun _ _ _ h => h) (Or.inl ⟨by rfl, ?_⟩) hS ?_
  rotate_left
  · rintro W ⟨y, rfl⟩
    go_simp
    (try with_reducible rfl)
  simp only [Act.put, List.setIfInBounds_toArray, List.set_cons_zero, List.set_cons_succ]
  clear hS HG HAo HMo
  refine ⟨by kernel_rfl, ?_⟩
  refine NoPanic.normal ?_
  obtain ⟨wa, hwa⟩ : ∃ W, W = wn := ⟨_, rfl⟩
  rw [← hwa] at HB hsa ⊢
  have Qa := HB
  clear hwa HB GR HO1
  go_upto_region 5 with (fail)
  refine wp_region_ord (fun W => ∃ y : Grown wa, W = y.world) [] 17 (by kernel_rfl) (by kernel_rfl) ⟨⟨_, bdrew (Below.refl _ _)⟩, rfl⟩ ?_
  intro hS
  have HAo := Lib.hid fun (V : World) (hV : ∃ y : Grown wa, V = y.world) => (show BC V gF C by obtain ⟨y, rfl⟩ := hV; exact HFB.out _ (btr Qa y.below))
  have HMo := Lib.hid fun (V : World) (hV : ∃ y : Grown wa, V = y.world) => (show BC V gM (mtC MM) by obtain ⟨y, rfl⟩ := hV; exact HMB.out _ (btr Qa y.below))
  have HG := Lib.hid (fun (V : World) (hV : Below wa.heap.size wa V) => (⟨⟨V, hV⟩, rfl⟩ : ∃ y : Grown wa, V = y.world))
  have HB := bdrew (Below.refl wa.heap.size wa)
  refine ord_take 0 rfl rfl (by kernel_rfl) (by kernel_rfl) (fun _ _ _ h => h) (yieldsIf_rec (by rfl) _ _ rfl _ rfl _ 9 foT HAo.out h9) hS ?_
  simp only [Act.put, List.setIfInBounds_toArray, List.set_cons_zero, List.set_cons_succ]
  refine ord_take 1 rfl rfl (by kernel_rfl) (by kernel_rfl) (fun _ _ _ h => h) (yieldsIf_rec (by rfl) _ _ rfl _ rfl _ 6 matT2 HMo.out rfl) hS ?_
  simp only [Act.put, List.setIfInBounds_toArray, List.set_cons_zero, List.set_cons_succ]
  refine ord_take (v := ?_) 2 rfl rfl (by kernel_rfl) (by kernel_rfl) (fun _ _ _ h => h) (Or.inl ⟨by rfl, ?_⟩) hS ?_
  rotate_left
  · rintro W ⟨y, rfl⟩
    go_simp
    (try with_reducible rfl)
  simp only [Act.put, List.setIfInBounds_toArray, List.set_cons_zero, List.set_cons_succ]
  refine ord_take (v := ?_) 4 rfl rfl (by kernel_rfl) (by kernel_rfl) (fun _ _ _ h => h) (Or.inl ⟨by rfl, ?_⟩) hS ?_
  rotate_left
  · rintro W ⟨y, rfl⟩
    go_simp
    (try with_reducible rfl)
  simp only [Act.put, List.setIfInBounds_toArray, List.set_cons_zero, List.set_cons_succ]
  refine ord_take (v := ?_) 6 rfl rfl (by kernel_rfl) (by kernel_rfl) (fun _ _ _ h => h) (Or.inl ⟨by rfl, ?_⟩) hS ?_
  rotate_left
  · rintro W ⟨y, rfl⟩
    go_simp
    (try with_reducible rfl)
  simp only [Act.put, List.setIfInBounds_toArray, List.set_cons_zero, List.set_cons_succ]
  clear hS
  refine ord_one 3 rfl (by kernel_rfl) rfl ?_
  intro K hK
  go_simp
  refine (HSX.out _).mono ?_; rintro e w' ⟨rfl, rfl⟩
  refine hK.out _ _ (HG.out _ HB) ?_
  clear hK K
  try simp only
  have hS := HG.out _ HB
  clear hS
  refine ord_one 5 rfl (by kernel_rfl) rfl ?_
  intro K hK
  go_simp
  refine (HSY.out _).mono ?_; rintro e w' ⟨rfl, rfl⟩
  refine hK.out _ _ (HG.out _ HB) ?_
  clear hK K
  try simp only
  have hS := HG.out _ HB
  clear hS
  refine ord_one 7 rfl (by kernel_rfl) rfl ?_
  intro K hK
  go_simp
  refine (HO2.out _ (btr Qa HB)).mono ?_; rintro e wn ⟨b8, A2, c2, rfl, hsb⟩
  have Hn := btr HB b8
  refine hK.out _ _ (HG.out _ Hn) ?_
  clear hK K HB b8
  have HB := Hn
  clear Hn
  try simp only
  have hS := HG.out _ HB
  refine ord_take (v := ?_) 8 rfl rfl (by kernel_rfl) (by kernel_rfl) (fun _ _ _ h => h) (Or.inl ⟨by rfl, ?_⟩) hS ?_
  rotate_left
  · rintro W ⟨y, rfl⟩
    go_simp
    (try with_reducible rfl)
  simp only [Act.put, List.setIfInBounds_toArray, List.set_cons_zero, List.set_cons_succ]
  refine ord_take (v := ?_) 9 rfl rfl (by kernel_rfl) (by kernel_rfl) (fun _ _ _ h => h) (Or.inl ⟨by rfl, ?_⟩) hS ?_
  rotate_left
  · rintro W ⟨y, rfl⟩
    go_simp
    (try with_reducible rfl)
  simp only [Act.put, List.setIfInBounds_toArray, List.set_cons_zero, List.set_cons_succ]
  refine ord_take (v := ?_) 10 rfl rfl (by kernel_rfl) (by kernel_rfl) (fun _ _ _ h => h) (Or.inl ⟨by rfl, ?_⟩) hS ?_
  rotate_left
  · rintro W ⟨y, rfl⟩
    go_simp
    (try with_reducible rfl)
  simp only [Act.put, List.setIfInBounds_toArray, List.set_cons_zero, List.set_cons_succ]
  refine ord_take (v := ?_) 11 rfl rfl (by kernel_rfl) (by kernel_rfl) (fun _ _ _ h => h) (Or.inl ⟨by rfl, ?_⟩) hS ?_
  rotate_left
  · rintro W ⟨y, rfl⟩
    go_simp
    (try with_reducible rfl)
  simp only [Act.put, List.setIfInBounds_toArray, List.set_cons_zero, List.set_cons_succ]
  refine ord_take (v := ?_) 12 rfl rfl (by kernel_rfl) (by kernel_rfl) (fun _ _ _ h => h) (Or.inl ⟨by rfl, ?_⟩) hS ?_
  rotate_left
  · rintro W ⟨y, rfl⟩
    go_simp
    (try with_reducible rfl)
  simp only [Act.put, List.setIfInBounds_toArray, List.set_cons_zero, List.set_cons_succ]
  refine ord_take (v := ?_) 13 rfl rfl (by kernel_rfl) (by kernel_rfl) (fun _ _ _ h => h) (Or.inl ⟨by rfl, ?_⟩) hS ?_
  rotate_left
  · rintro W ⟨y, rfl⟩
    go_simp
    (try with_reducible rfl)
  simp only [Act.put, List.setIfInBounds_toArray, List.set_cons_zero, List.set_cons_succ]
  refine ord_take (v := ?_) 14 rfl rfl (by kernel_rfl) (by kernel_rfl) (fun _ _ _ h => h) (Or.inl ⟨by rfl, ?_⟩) hS ?_
  rotate_left
  · rintro W ⟨y, rfl⟩
    go_simp
    (try with_reducible rfl)
  simp only [Act.put, List.setIfInBounds_toArray, List.set_cons_zero, List.set_cons_succ]
  refine ord_take (v := ?_) 15 rfl rfl (by kernel_rfl) (by kernel_rfl) (fun _ _ _ h => h) (Or.inl ⟨by rfl, ?_⟩) hS ?_
  rotate_left
  · rintro W ⟨y, rfl⟩
    go_simp
    (try with_reducible rfl)
  simp only [Act.put, List.setIfInBounds_toArray, List.set_cons_zero, List.set_cons_succ]
  refine ord_take (v := ?_) 16 rfl rfl (by kernel_rfl) (by kernel_rfl) (fun _ _ _ h => h) (Or.inl ⟨by rfl, ?_⟩) hS ?_
  rotate_left
  · rintro W ⟨y, rfl⟩
    go_simp
    (try with_reducible rfl)
  simp only [Act.put, List.setIfInBounds_toArray, List.set_cons_zero, List.set_cons_succ]
  clear hS HG HAo HMo
  refine ⟨by kernel_rfl, ?_⟩
  refine NoPanic.normal ?_
  obtain ⟨wb, hwb⟩ : ∃ W, W = wn := ⟨_, rfl⟩
  rw [← hwb] at HB hsb ⊢
  have Qb := btr Qa HB
  replace hsa := hsa.below HB
  clear hwb HB Qa HO2
  have hFb := HFB.out _ Qb
  go_wp2_with (first
    | (refine wpList_load_rec rfl _ _ rfl gF rfl _ 9 foT hFb h9 ?_)
    | fail)
  refine (HMY.out _ Qb).mono ?_; rintro e wc ⟨rfl, b9⟩
  replace hsa := hsa.below b9
  replace hsb := hsb.below b9
  have Qc := btr Qb b9
  clear hFb b9 Qb HMY
  go_wp2_with fail
  refine (sameSg_any _ _ _ _ _ _ P _ hnP6 hsa hsb).mono ?_; rintro e w12 ⟨rfl, q7, rfl⟩
  have HPM := Lib.hid (path_May_any A1 nP c1 P (wc.drewN q7) (by omega) (hsa.drewN _))
  rw [HMP.out] at HPM
  have Qd := bdrewN Qc q7
  clear hsa hsb Qc
  go_wp2_with fail
  refine HPM.out.mono ?_; rintro e wd ⟨rfl, b10⟩
  have Qe := btr Qd b10
  clear Qd b10 HPM HMP
  go_upto_region 8 with (fail)
  refine wp_region_ord (fun W => ∃ y : Grown wd, W = y.world) [] 18 (by kernel_rfl) (by kernel_rfl) ⟨⟨_, bdrew (Below.refl _ _)⟩, rfl⟩ ?_
  intro hS
  have HAo := Lib.hid fun (V : World) (hV : ∃ y : Grown wd, V = y.world) => (show BC V gF C by obtain ⟨y, rfl⟩ := hV; exact HFB.out _ (btr Qe y.below))
  have HMo := Lib.hid fun (V : World) (hV : ∃ y : Grown wd, V = y.world) => (show BC V gM (mtC MM) by obtain ⟨y, rfl⟩ := hV; exact HMB.out _ (btr Qe y.below))
  have HG := Lib.hid (fun (V : World) (hV : Below wd.heap.size wd V) => (⟨⟨V, hV⟩, rfl⟩ : ∃ y : Grown wd, V = y.world))
  have HB := bdrew (Below.refl wd.heap.size wd)
  refine ord_take 0 rfl rfl (by kernel_rfl) (by kernel_rfl) (fun _ _ _ h => h) (yieldsIf_rec (by rfl) _ _ rfl _ rfl _ 9 foT HAo.out h9) hS ?_
  simp only [Act.put, List.setIfInBounds_toArray, List.set_cons_zero, List.set_cons_succ]
  refine ord_take 1 rfl rfl (by kernel_rfl) (by kernel_rfl) (fun _ _ _ h => h) (yieldsIf_rec (by rfl) _ _ rfl _ rfl _ 6 matT2 HMo.out rfl) hS ?_
  simp only [Act.put, List.setIfInBounds_toArray, List.set_cons_zero, List.set_cons_succ]
  refine ord_take (v := ?_) 2 rfl rfl (by kernel_rfl) (by kernel_rfl) (fun _ _ _ h => h) (Or.inl ⟨by rfl, ?_⟩) hS ?_
  rotate_left
  · rintro W ⟨y, rfl⟩
    go_simp
    (try with_reducible rfl)
  simp only [Act.put, List.setIfInBounds_toArray, List.set_cons_zero, List.set_cons_succ]
  refine ord_take (v := ?_) 4 rfl rfl (by kernel_rfl) (by kernel_rfl) (fun _ _ _ h => h) (Or.inl ⟨by rfl, ?_⟩) hS ?_
  rotate_left
  · rintro W ⟨y, rfl⟩
    go_simp
    (try with_reducible rfl)
  simp only [Act.put, List.setIfInBounds_toArray, List.set_cons_zero, List.set_cons_succ]
  refine ord_take (v := ?_) 6 rfl rfl (by kernel_rfl) (by kernel_rfl) (fun _ _ _ h => h) (Or.inl ⟨by rfl, ?_⟩) hS ?_
  rotate_left
  · rintro W ⟨y, rfl⟩
    go_simp
    (try with_reducible rfl)
  simp only [Act.put, List.setIfInBounds_toArray, List.set_cons_zero, List.set_cons_succ]
  refine ord_take (v := ?_) 7 rfl rfl (by kernel_rfl) (by kernel_rfl) (fun _ _ _ h => h) (Or.inl ⟨by rfl, ?_⟩) hS ?_
  rotate_left
  · rintro W ⟨y, rfl⟩
    go_simp
    (try with_reducible rfl)
  simp only [Act.put, List.setIfInBounds_toArray, List.set_cons_zero, List.set_cons_succ]
  rw [← HS3.out]
  clear hS
  refine ord_one 3 rfl (by kernel_rfl) rfl ?_
  intro K hK
  go_simp
  refine (HSX.out _).mono ?_; rintro e w' ⟨rfl, rfl⟩
  refine hK.out _ _ (HG.out _ HB) ?_
  clear hK K
  try simp only
  have hS := HG.out _ HB
  clear hS
  refine ord_one 5 rfl (by kernel_rfl) rfl ?_
  intro K hK
  go_simp
  refine (HSY.out _).mono ?_; rintro e w' ⟨rfl, rfl⟩
  refine hK.out _ _ (HG.out _ HB) ?_
  clear hK K
  try simp only
  have hS := HG.out _ HB
  clear hS
  refine ord_one 8 rfl (by kernel_rfl) rfl ?_
  intro K hK
  go_simp
  refine (HO3.out _ (btr Qe HB)).mono ?_; rintro e wn ⟨b8, A3, c3, rfl, hsc⟩
  have Hn := btr HB b8
  refine hK.out _ _ (HG.out _ Hn) ?_
  clear hK K HB b8
  have HB := Hn
  clear Hn
  try simp only
  have hS := HG.out _ HB
  refine ord_take (v := ?_) 9 rfl rfl (by kernel_rfl) (by kernel_rfl) (fun _ _ _ h => h) (Or.inl ⟨by rfl, ?_⟩) hS ?_
  rotate_left
  · rintro W ⟨y, rfl⟩
    go_simp
    (try with_reducible rfl)
  simp only [Act.put, List.setIfInBounds_toArray, List.set_cons_zero, List.set_cons_succ]
  refine ord_take (v := ?_) 10 rfl rfl (by kernel_rfl) (by kernel_rfl) (fun _ _ _ h => h) (Or.inl ⟨by rfl, ?_⟩) hS ?_
  rotate_left
  · rintro W ⟨y, rfl⟩
    go_simp
    (try with_reducible rfl)
  simp only [Act.put, List.setIfInBounds_toArray, List.set_cons_zero, List.set_cons_succ]
  refine ord_take (v := ?_) 11 rfl rfl (by kernel_rfl) (by kernel_rfl) (fun _ _ _ h => h) (Or.inl ⟨by rfl, ?_⟩) hS ?_
  rotate_left
  · rintro W ⟨y, rfl⟩
    go_simp
    (try with_reducible rfl)
  simp only [Act.put, List.setIfInBounds_toArray, List.set_cons_zero, List.set_cons_succ]
  refine ord_take (v := ?_) 12 rfl rfl (by kernel_rfl) (by kernel_rfl) (fun _ _ _ h => h) (Or.inl ⟨by rfl, ?_⟩) hS ?_
  rotate_left
  · rintro W ⟨y, rfl⟩
    go_simp
    (try with_reducible rfl)
  simp only [Act.put, List.setIfInBounds_toArray, List.set_cons_zero, List.set_cons_succ]
  refine ord_take (v := ?_) 13 rfl rfl (by kernel_rfl) (by kernel_rfl) (fun _ _ _ h => h) (Or.inl ⟨by rfl, ?_⟩) hS ?_
  rotate_left
  · rintro W ⟨y, rfl⟩
    go_simp
    (try with_reducible rfl)
  simp only [Act.put, List.setIfInBounds_toArray, List.set_cons_zero, List.set_cons_succ]
  refine ord_take (v := ?_) 14 rfl rfl (by kernel_rfl) (by kernel_rfl) (fun _ _ _ h => h) (Or.inl ⟨by rfl, ?_⟩) hS ?_
  rotate_left
  · rintro W ⟨y, rfl⟩
    go_simp
    (try with_reducible rfl)
  simp only [Act.put, List.setIfInBounds_toArray, List.set_cons_zero, List.set_cons_succ]
  refine ord_take (v := ?_) 15 rfl rfl (by kernel_rfl) (by kernel_rfl) (fun _ _ _ h => h) (Or.inl ⟨by rfl, ?_⟩) hS ?_
  rotate_left
  · rintro W ⟨y, rfl⟩
    go_simp
    (try with_reducible rfl)
  simp only [Act.put, List.setIfInBounds_toArray, List.set_cons_zero, List.set_cons_succ]
  refine ord_take (v := ?_) 16 rfl rfl (by kernel_rfl) (by kernel_rfl) (fun _ _ _ h => h) (Or.inl ⟨by rfl, ?_⟩) hS ?_
  rotate_left
  · rintro W ⟨y, rfl⟩
    go_simp
    (try with_reducible rfl)
  simp only [Act.put, List.setIfInBounds_toArray, List.set_cons_zero, List.set_cons_succ]
  refine ord_take (v := ?_) 17 rfl rfl (by kernel_rfl) (by kernel_rfl) (fun _ _ _ h => h) (Or.inl ⟨by rfl, ?_⟩) hS ?_
  rotate_left
  · rintro W ⟨y, rfl⟩
    go_simp
    (try with_reducible rfl)
  simp only [Act.put, List.setIfInBounds_toArray, List.set_cons_zero, List.set_cons_succ]
  clear hS HG HAo HMo
  refine ⟨by kernel_rfl, ?_⟩
  refine NoPanic.normal ?_
  obtain ⟨we, hwe⟩ : ∃ W, W = wn := ⟨_, rfl⟩
  rw [← hwe] at HB hsc ⊢
  have Qf := btr Qe HB
  clear hwe HB Qe HO3 hsc
  go_upto_region 9 with (fail)
  refine wp_region_ord (fun W => ∃ y : Grown we, W = y.world) [] 18 (by kernel_rfl) (by kernel_rfl) ⟨⟨_, bdrew (Below.refl _ _)⟩, rfl⟩ ?_
  intro hS
  have HAo := Lib.hid fun (V : World) (hV : ∃ y : Grown we, V = y.world) => (show BC V gF C by obtain ⟨y, rfl⟩ := hV; exact HFB.out _ (btr Qf y.below))
  have HMo := Lib.hid fun (V : World) (hV : ∃ y : Grown we, V = y.world) => (show BC V gM (mtC MM) by obtain ⟨y, rfl⟩ := hV; exact HMB.out _ (btr Qf y.below))
  have HG := Lib.hid (fun (V : World) (hV : Below we.heap.size we V) => (⟨⟨V, hV⟩, rfl⟩ : ∃ y : Grown we, V = y.world))
  have HB := bdrew (Below.refl we.heap.size we)
  refine ord_take 0 rfl rfl (by kernel_rfl) (by kernel_rfl) (fun _ _ _ h => h) (yieldsIf_rec (by rfl) _ _ rfl _ rfl _ 9 foT HAo.out h9) hS ?_
  simp only [Act.put, List.setIfInBounds_toArray, List.set_cons_zero, List.set_cons_succ]
  refine ord_take 1 rfl rfl (by kernel_rfl) (by kernel_rfl) (fun _ _ _ h => h) (yieldsIf_rec (by rfl) _ _ rfl _ rfl _ 6 matT2 HMo.out rfl) hS ?_
  simp only [Act.put, List.setIfInBounds_toArray, List.set_cons_zero, List.set_cons_succ]
  refine ord_take (v := ?_) 2 rfl rfl (by kernel_rfl) (by kernel_rfl) (fun _ _ _ h => h) (Or.inl ⟨by rfl, ?_⟩) hS ?_
  rotate_left
  · rintro W ⟨y, rfl⟩
    go_simp
    (try with_reducible rfl)
  simp only [Act.put, List.setIfInBounds_toArray, List.set_cons_zero, List.set_cons_succ]
  refine ord_take (v := ?_) 4 rfl rfl (by kernel_rfl) (by kernel_rfl) (fun _ _ _ h => h) (Or.inl ⟨by rfl, ?_⟩) hS ?_
  rotate_left
  · rintro W ⟨y, rfl⟩
    go_simp
    (try with_reducible rfl)
  simp only [Act.put, List.setIfInBounds_toArray, List.set_cons_zero, List.set_cons_succ]
  refine ord_take (v := ?_) 6 rfl rfl (by kernel_rfl) (by kernel_rfl) (fun _ _ _ h => h) (Or.inl ⟨by rfl, ?_⟩) hS ?_
  rotate_left
  · rintro W ⟨y, rfl⟩
    go_simp
    (try with_reducible rfl)
  simp only [Act.put, List.setIfInBounds_toArray, List.set_cons_zero, List.set_cons_succ]
  refine ord_take (v := ?_) 7 rfl rfl (by kernel_rfl) (by kernel_rfl) (fun _ _ _ h => h) (Or.inl ⟨by rfl, ?_⟩) hS ?_
  rotate_left
  · rintro W ⟨y, rfl⟩
    go_simp
    (try with_reducible rfl)
  simp only [Act.put, List.setIfInBounds_toArray, List.set_cons_zero, List.set_cons_succ]
  rw [← HS4.out]
  clear hS
  refine ord_one 3 rfl (by kernel_rfl) rfl ?_
  intro K hK
  go_simp
  refine (HSX.out _).mono ?_; rintro e w' ⟨rfl, rfl⟩
  refine hK.out _ _ (HG.out _ HB) ?_
  clear hK K
  try simp only
  have hS := HG.out _ HB
  clear hS
  refine ord_one 5 rfl (by kernel_rfl) rfl ?_
  intro K hK
  go_simp
  refine (HSY.out _).mono ?_; rintro e w' ⟨rfl, rfl⟩
  refine hK.out _ _ (HG.out _ HB) ?_
  clear hK K
  try simp only
  have hS := HG.out _ HB
  clear hS
  refine ord_one 8 rfl (by kernel_rfl) rfl ?_
  intro K hK
  go_simp
  refine (HO4.out _ (btr Qf HB)).mono ?_; rintro e wn ⟨b8, A4, c4, rfl, hsd⟩
  have Hn := btr HB b8
  refine hK.out _ _ (HG.out _ Hn) ?_
  clear hK K HB b8
  have HB := Hn
  clear Hn
  try simp only
  have hS := HG.out _ HB
  refine ord_take (v := ?_) 9 rfl rfl (by kernel_rfl) (by kernel_rfl) (fun _ _ _ h => h) (Or.inl ⟨by rfl, ?_⟩) hS ?_
  rotate_left
  · rintro W ⟨y, rfl⟩
    go_simp
    (try with_reducible rfl)
  simp only [Act.put, List.setIfInBounds_toArray, List.set_cons_zero, List.set_cons_succ]
  refine ord_take (v := ?_) 10 rfl rfl (by kernel_rfl) (by kernel_rfl) (fun _ _ _ h => h) (Or.inl ⟨by rfl, ?_⟩) hS ?_
  rotate_left
  · rintro W ⟨y, rfl⟩
    go_simp
    (try with_reducible rfl)
  simp only [Act.put, List.setIfInBounds_toArray, List.set_cons_zero, List.set_cons_succ]
  refine ord_take (v := ?_) 11 rfl rfl (by kernel_rfl) (by kernel_rfl) (fun _ _ _ h => h) (Or.inl ⟨by rfl, ?_⟩) hS ?_
  rotate_left
  · rintro W ⟨y, rfl⟩
    go_simp
    (try with_reducible rfl)
  simp only [Act.put, List.setIfInBounds_toArray, List.set_cons_zero, List.set_cons_succ]
  refine ord_take (v := ?_) 12 rfl rfl (by kernel_rfl) (by kernel_rfl) (fun _ _ _ h => h) (Or.inl ⟨by rfl, ?_⟩) hS ?_
  rotate_left
  · rintro W ⟨y, rfl⟩
    go_simp
    (try with_reducible rfl)
  simp only [Act.put, List.setIfInBounds_toArray, List.set_cons_zero, List.set_cons_succ]
  refine ord_take (v := ?_) 13 rfl rfl (by kernel_rfl) (by kernel_rfl) (fun _ _ _ h => h) (Or.inl ⟨by rfl, ?_⟩) hS ?_
  rotate_left
  · rintro W ⟨y, rfl⟩
    go_simp
    (try with_reducible rfl)
  simp only [Act.put, List.setIfInBounds_toArray, List.set_cons_zero, List.set_cons_succ]
  refine ord_take (v := ?_) 14 rfl rfl (by kernel_rfl) (by kernel_rfl) (fun _ _ _ h => h) (Or.inl ⟨by rfl, ?_⟩) hS ?_
  rotate_left
  · rintro W ⟨y, rfl⟩
    go_simp
    (try with_reducible rfl)
  simp only [Act.put, List.setIfInBounds_toArray, List.set_cons_zero, List.set_cons_succ]
  refine ord_take (v := ?_) 15 rfl rfl (by kernel_rfl) (by kernel_rfl) (fun _ _ _ h => h) (Or.inl ⟨by rfl, ?_⟩) hS ?_
  rotate_left
  · rintro W ⟨y, rfl⟩
    go_simp
    (try with_reducible rfl)
  simp only [Act.put, List.setIfInBounds_toArray, List.set_cons_zero, List.set_cons_succ]
  refine ord_take (v := ?_) 16 rfl rfl (by kernel_rfl) (by kernel_rfl) (fun _ _ _ h => h) (Or.inl ⟨by rfl, ?_⟩) hS ?_
  rotate_left
  · rintro W ⟨y, rfl⟩
    go_simp
    (try with_reducible rfl)
  simp only [Act.put, List.setIfInBounds_toArray, List.set_cons_zero, List.set_cons_succ]
  refine ord_take (v := ?_) 17 rfl rfl (by kernel_rfl) (by kernel_rfl) (fun _ _ _ h => h) (Or.inl ⟨by rfl, ?_⟩) hS ?_
  rotate_left
  · rintro W ⟨y, rfl⟩
    go_simp
    (try with_reducible rfl)
  simp only [Act.put, List.setIfInBounds_toArray, List.set_cons_zero, List.set_cons_succ]
  clear hS HG HAo HMo
  refine ⟨by kernel_rfl, ?_⟩
  refine NoPanic.normal ?_
  have Qg := btr B6 (btr Qf HB)
  subst hE4
  clear HB Qf HO4 hsd
  by_cases her : er = 0
  · have h16 := HE3.out her
    subst her
    subst h16
    go_wp2_with fail
    go_ret
    exact ⟨rfl, Qg⟩
  · have her' : (er != 0) = true := by simp [her]
    clear her
    go_wp2_with fail
    go_ret
    exact ⟨rfl, Qg⟩
end Go.Proofs.YtaphmonpdnbiiaaGreat
