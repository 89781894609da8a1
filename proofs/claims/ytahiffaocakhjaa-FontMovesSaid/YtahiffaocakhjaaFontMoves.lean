/- FontMoves: the walk. -/
import Derived.Test.YtahiffaocakhjaaMFt
import Derived.Test.YtahiffaocakhjaaFontMvP
namespace Go.Proofs.Ytahiffaocakhjaa
open Go.RowKit Go.BigFrame

theorem put_F {W : World} {C : List Value} (h9 : C.length = 9) : ∃ W1, W1 = (W.alloc (.cells foZ.toArray 30)).setCells W.heap.size 0 C ∧
    BC (W.alloc (.cells foZ.toArray 30)) W.heap.size foZ ∧ BC W1 W.heap.size C ∧ Below W.heap.size W W1 := by
  have b0 : BC (W.alloc (.cells foZ.toArray 30)) W.heap.size foZ := BC.new foZ 30 rfl
  exact ⟨_, rfl, b0, b0.putAll C (by rw [h9]; rfl), below_setCells (Nat.le_refl _) _ _ _ (bal (Below.refl _ _) _)⟩
set_option maxRecDepth 100000 in
set_option maxHeartbeats 8000000 in
theorem FontMoves_any (A : Option Addr) (n c : Nat) (A' : Option Addr) (n' c' : Nat) (dx dy : Int) (w : World) (h : InA w A n) (hnc : n ≤ c) (hcm : c ≤ 9223372036854775807)
    (h' : InA w A' n') (hnc' : n' ≤ c') (hcm' : c' ≤ 9223372036854775807) :
    Calls Try.prog 7 #[.slice A n c, .slice A' n' c', .int .i64 dx, .int .i64 dy] w fun e w' => e = .returned (.bool true) ∧ Below w.heap.size w w' := by
  obtain ⟨zs, hz⟩ := h.sl
  obtain ⟨ts, ht⟩ := h'.sl
  have HMD := Lib.hid fun W (hb : Below w.heap.size w W) => Made41_any A n c zs W hnc hcm (hz.below hb)
  have HTX := Lib.hid fun W (hb : Below w.heap.size w W) => text_any A' n' c' ts W hnc' hcm' (ht.below hb)
  clear h h' hnc hcm hnc' hcm' hz ht
  go_enter Try.func7, Try.ntmps7
  go_wp2_with fail
  refine (known41_any _).mono ?_; rintro e w1 ⟨rfl, b1⟩
  go_wp2_with fail
  refine (HMD.out _ b1).mono ?_; rintro e w2 ⟨F, C, rfl, hFo, hMF, b2⟩
  have B2 := btr b1 b2
  go_wp2_with fail
  refine (HTX.out _ B2).mono ?_; rintro e w4 ⟨s, rfl, hbs, b3⟩
  have B4 := btr B2 b3
  have hFo4 := hFo.below b3
  have h9 := hFo4.len
  have h1c := one_foC hFo4
  obtain ⟨w6, hw6, Z0, F6, b6⟩ := put_F (W := w4) h9
  have HW6 := Lib.hid hw6
  have hFo6 := hFo4.below b6
  have B6 := btr B4 b6
  have hz1 : foZ.toArray = #[.int .i64 0, .int .i64 0, .int .i64 0, .int .i64 0, .int .i64 0, .int .i64 0, .slice none 0 0, .slice none 0 0, .slice none 0 0] := rfl
  rw [hz1] at Z0 HW6
  obtain ⟨gF, hgF⟩ : ∃ g, g = w4.heap.size := ⟨_, rfl⟩
  have HGF := Lib.hid hgF
  rw [← hgF] at F6
  obtain ⟨k, hk, hm⟩ := font_is hMF
  have hur := placeI_range dx 60 (by omega)
  have hvr := placeI_range dy 60 (by omega)
  have HPX := Lib.hid fun W => Place_any dx 60 W (by omega) (by omega)
  have HPY := Lib.hid fun W => Place_any dy 60 W (by omega) (by omega)
  obtain ⟨u0, hu0⟩ : ∃ z, placeI dx 60 = z := ⟨_, rfl⟩
  obtain ⟨v0, hv0⟩ : ∃ z, placeI dy 60 = z := ⟨_, rfl⟩
  rw [hu0] at hur HPX
  rw [hv0] at hvr HPY
  obtain ⟨u, hu⟩ : ∃ z, z = u0 - 20 := ⟨_, rfl⟩
  obtain ⟨v, hv⟩ : ∃ z, z = v0 - 20 := ⟨_, rfl⟩
  have hw1 : IntKind.i64.wrap (u0 - 20) = u := by rw [hu]; exact IntWalk.i64_in _ (by omega)
  have hw2 : IntKind.i64.wrap (v0 - 20) = v := by rw [hv]; exact IntWalk.i64_in _ (by omega)
  have hub : Bd 40 u := by unfold Bd; omega
  have hvb : Bd 40 v := by unfold Bd; omega
  have hw3 : IntKind.i64.wrap (u * 65536) = u * 65536 := IntWalk.i64_in _ (by unfold Bd at *; omega)
  have hw4 : IntKind.i64.wrap (v * 65536) = v * 65536 := IntWalk.i64_in _ (by unfold Bd at *; omega)
  have h8 : (bl s).length ≤ 8 := by rw [hbs]; exact textN_len ts
  have hlt : ∀ b ∈ bl s, b < 3 := by rw [hbs]; exact textN_lt ts
  obtain ⟨l, p1, E1, E2, E3, E4, hl48, hp1⟩ := moves_law hMF hk hm hub hvb hlt h8
  have hp3 : p1 * 65536 + u * 65536 = (p1 + u) * 65536 := by grind
  have hw5 : IntKind.i64.wrap (p1 * 65536 + u * 65536) = (p1 + u) * 65536 := by rw [hp3]; exact IntWalk.i64_in _ (by unfold Bd at *; omega)
  have hz3 : s.size ≤ 1000000 := by rw [← bl_len]; omega
  obtain ⟨M, hM⟩ : ∃ M, l.map (mvS u v) = M := ⟨_, rfl⟩
  have hML : M.length = l.length := by rw [← hM, List.length_map]
  rw [hM] at E2 E3 E4
  have HFB := Lib.hid fun V (hV : Below w6.heap.size w6 V) => F6.below hV
  have HFo := Lib.hid fun V (hV : Below w6.heap.size w6 V) => hFo6.below hV
  have HO1 := Lib.hid fun V (hV : Below w6.heap.size w6 V) => outline_any F C oneM 0 0 s ((l, p1 * 65536, 0), 0) V hz3 (HFo.out V hV) E1
  have HO2 := Lib.hid fun V (hV : Below w6.heap.size w6 V) => outline_any F C oneM (u * 65536) (v * 65536) s ((M, (p1 + u) * 65536, v * 65536), 0) V hz3 (HFo.out V hV) E2
  have HO3 := Lib.hid fun V (hV : Below w6.heap.size w6 V) => outline_any F C (wholeM 1 0 0 1 u v) 0 0 s ((M, p1 * 65536, 0), 0) V hz3 (HFo.out V hV) E3
  have HWH := Lib.hid fun W => Whole_any 1 0 0 1 u v W (by unfold Bd at *; omega)
  obtain ⟨nl, hnl⟩ : ∃ n, n = l.length := ⟨_, rfl⟩
  have HSH := Lib.hid fun A1 c1 V (h1 : Sl V 5 A1 nl (sgs l)) => Shift_any A1 nl c1 u v l (M, 0) V (by rw [hnl]; omega) h1 E4
  simp only [vm] at HO1 HO2 HO3 HWH HSH
  rw [hML, ← hnl] at HO2 HO3 HSH
  rw [← hnl] at HO1
  have hn6 : nl ≤ 1000000 := by omega
  have GR := Below.refl w6.heap.size w6
  clear hu0 hv0 hu hv hub hvb h8 hlt E1 E2 E3 E4 hp1 hp3 hz3 hM hML hnl hz1 hw6 hgF hbs hm hk F6 hFo6 hFo4 hFo hMF b1 b2 b3 b6 B2 B4 hur hvr
  go_wp2_with (first
    | (refine wpList_store_rec rfl _ _ _ rfl w4.heap.size C _ rfl rfl 9 foT Z0 rfl h9 h1c ?_; rw [← HW6.out])
    | fail)
  refine (HPX.out _).mono ?_; rintro e w' ⟨rfl, rfl⟩
  go_wp2_with fail
  refine (HPY.out _).mono ?_; rintro e w' ⟨rfl, rfl⟩
  rw [← HGF.out]
  clear Z0 HW6 h1c HGF HPX HPY
  go_upto_region 5 with (fail)
  refine wp_region_ord (fun W => ∃ y : Grown w6, W = y.world) [] 13 (by kernel_rfl) (by kernel_rfl) ⟨⟨_, bdrew (Below.refl _ _)⟩, rfl⟩ ?_
  intro hS
  have HAo := Lib.hid fun (V : World) (hV : ∃ y : Grown w6, V = y.world) => (show BC V gF C by obtain ⟨y, rfl⟩ := hV; exact HFB.out _ (btr GR y.below))
  have HG := Lib.hid (fun (V : World) (hV : Below w6.heap.size w6 V) => (⟨⟨V, hV⟩, rfl⟩ : ∃ y : Grown w6, V = y.world))
  have HB := bdrew (Below.refl w6.heap.size w6)
  refine ord_take 0 rfl rfl (by kernel_rfl) (by kernel_rfl) (fun _ _ _ h => h) (yieldsIf_rec (by rfl) _ _ rfl _ rfl _ 9 foT HAo.out h9) hS ?_
  simp only [Act.put, List.setIfInBounds_toArray, List.set_cons_zero, List.set_cons_succ]
  refine ord_take (v := ?_) 2 rfl rfl (by kernel_rfl) (by kernel_rfl) (fun _ _ _ h => h) (Or.inl ⟨by rfl, ?_⟩) hS ?_
  rotate_left
  · rintro W ⟨y, rfl⟩
    go_simp
    (try with_reducible rfl)
  simp only [Act.put, List.setIfInBounds_toArray, List.set_cons_zero, List.set_cons_succ]
  clear hS
  refine ord_one 1 rfl (by kernel_rfl) rfl ?_
  intro K hK
  go_simp
  refine (matOne_any _).mono ?_; rintro e wn ⟨rfl, b8⟩
  have Hn := btr HB b8
  refine hK.out _ _ (HG.out _ Hn) ?_
  clear hK K HB b8
  have HB := Hn
  clear Hn
  try simp only
  have hS := HG.out _ HB
  clear hS
  refine ord_one 3 rfl (by kernel_rfl) rfl ?_
  intro K hK
  go_simp
  refine (HO1.out _ (btr GR HB)).mono ?_; rintro e wn ⟨b8, A1, c1, rfl, hsa⟩
  have Hn := btr HB b8
  refine hK.out _ _ (HG.out _ Hn) ?_
  clear hK K HB b8
  have HB := Hn
  clear Hn
  try simp only
  have hS := HG.out _ HB
  refine ord_take (v := ?_) 4 rfl rfl (by kernel_rfl) (by kernel_rfl) (fun _ _ _ h => h) (Or.inl ⟨by rfl, ?_⟩) hS ?_
  rotate_left
  · rintro W ⟨y, rfl⟩
    go_simp
    (try with_reducible rfl)
  simp only [Act.put, List.setIfInBounds_toArray, List.set_cons_zero, List.set_cons_succ]
  refine ord_take (v := ?_) 5 rfl rfl (by kernel_rfl) (by kernel_rfl) (fun _ _ _ h => h) (Or.inl ⟨by rfl, ?_⟩) hS ?_
  rotate_left
  · rintro W ⟨y, rfl⟩
    go_simp
    (try with_reducible rfl)
  simp only [Act.put, List.setIfInBounds_toArray, List.set_cons_zero, List.set_cons_succ]
  refine ord_take (v := ?_) 6 rfl rfl (by kernel_rfl) (by kernel_rfl) (fun _ _ _ h => h) (Or.inl ⟨by rfl, ?_⟩) hS ?_
  rotate_left
  · rintro W ⟨y, rfl⟩
    go_simp
    (try with_reducible rfl)
  simp only [Act.put, List.setIfInBounds_toArray, List.set_cons_zero, List.set_cons_succ]
  refine ord_take (v := ?_) 7 rfl rfl (by kernel_rfl) (by kernel_rfl) (fun _ _ _ h => h) (Or.inl ⟨by rfl, ?_⟩) hS ?_
  rotate_left
  · rintro W ⟨y, rfl⟩
    go_simp
    (try with_reducible rfl)
  simp only [Act.put, List.setIfInBounds_toArray, List.set_cons_zero, List.set_cons_succ]
  refine ord_take (v := ?_) 8 rfl rfl (by kernel_rfl) (by kernel_rfl) (fun _ _ _ h => h) (Or.inl ⟨by rfl, ?_⟩) hS ?_
  rotate_left
  · rintro W ⟨y, rfl⟩
    go_simp
    (try with_reducible rfl)
  simp only [Act.put, List.setIfInBounds_toArray, List.set_cons_zero, List.set_cons_succ]
  refine ord_take (v := ?_) 9 rfl rfl (by kernel_rfl) (by kernel_rfl) (fun _ _ _ h => h) (Or.inl ⟨by rfl, ?_⟩) hS ?_
  rotate_left
  · rintro W ⟨y, rfl⟩
    go_simp
    (try with_reducible rfl)
  simp only [Act.put, List.setIfInBounds_toArray, List.set_cons_zero, List.set_cons_succ]
  refine ord_take (v := ?_) 10 rfl rfl (by kernel_rfl) (by kernel_rfl) (fun _ _ _ h => h) (Or.inl ⟨by rfl, ?_⟩) hS ?_
  rotate_left
  · rintro W ⟨y, rfl⟩
    go_simp
    (try with_reducible rfl)
  simp only [Act.put, List.setIfInBounds_toArray, List.set_cons_zero, List.set_cons_succ]
  refine ord_take (v := ?_) 11 rfl rfl (by kernel_rfl) (by kernel_rfl) (fun _ _ _ h => h) (Or.inl ⟨by rfl, ?_⟩) hS ?_
  rotate_left
  · rintro W ⟨y, rfl⟩
    go_simp
    (try with_reducible rfl)
  simp only [Act.put, List.setIfInBounds_toArray, List.set_cons_zero, List.set_cons_succ]
  refine ord_take (v := ?_) 12 rfl rfl (by kernel_rfl) (by kernel_rfl) (fun _ _ _ h => h) (Or.inl ⟨by rfl, ?_⟩) hS ?_
  rotate_left
  · rintro W ⟨y, rfl⟩
    go_simp
    (try with_reducible rfl)
  simp only [Act.put, List.setIfInBounds_toArray, List.set_cons_zero, List.set_cons_succ]
  clear hS HG HAo
  refine ⟨by kernel_rfl, ?_⟩
  refine NoPanic.normal ?_
  obtain ⟨wa, hwa⟩ : ∃ W, W = wn := ⟨_, rfl⟩
  rw [← hwa] at HB hsa ⊢
  have Qa := HB
  clear hwa HB GR HO1
  go_upto_region 6 with (fail)
  refine wp_region_ord (fun W => ∃ y : Grown wa, W = y.world) [] 17 (by kernel_rfl) (by kernel_rfl) ⟨⟨_, bdrew (Below.refl _ _)⟩, rfl⟩ ?_
  intro hS
  have HAo := Lib.hid fun (V : World) (hV : ∃ y : Grown wa, V = y.world) => (show BC V gF C by obtain ⟨y, rfl⟩ := hV; exact HFB.out _ (btr Qa y.below))
  have HG := Lib.hid (fun (V : World) (hV : Below wa.heap.size wa V) => (⟨⟨V, hV⟩, rfl⟩ : ∃ y : Grown wa, V = y.world))
  have HB := bdrew (Below.refl wa.heap.size wa)
  refine ord_take 0 rfl rfl (by kernel_rfl) (by kernel_rfl) (fun _ _ _ h => h) (yieldsIf_rec (by rfl) _ _ rfl _ rfl _ 9 foT HAo.out h9) hS ?_
  simp only [Act.put, List.setIfInBounds_toArray, List.set_cons_zero, List.set_cons_succ]
  refine ord_take (v := ?_) 2 rfl rfl (by kernel_rfl) (by kernel_rfl) (fun _ _ _ h => h) (Or.inl ⟨by rfl, ?_⟩) hS ?_
  rotate_left
  · rintro W ⟨y, rfl⟩
    go_simp
    (try with_reducible rfl)
  simp only [Act.put, List.setIfInBounds_toArray, List.set_cons_zero, List.set_cons_succ]
  refine ord_take (v := ?_) 3 rfl rfl (by kernel_rfl) (by kernel_rfl) (fun _ _ _ h => h) (Or.inl ⟨by rfl, ?_⟩) hS ?_
  rotate_left
  · rintro W ⟨y, rfl⟩
    go_simp
    (try with_reducible rfl)
  simp only [Act.put, List.setIfInBounds_toArray, List.set_cons_zero, List.set_cons_succ]
  refine ord_take (v := ?_) 4 rfl rfl (by kernel_rfl) (by kernel_rfl) (fun _ _ _ h => h) (Or.inl ⟨by rfl, ?_⟩) hS ?_
  rotate_left
  · rintro W ⟨y, rfl⟩
    go_simp
    (try with_reducible rfl)
  simp only [Act.put, List.setIfInBounds_toArray, List.set_cons_zero, List.set_cons_succ]
  refine ord_take (v := ?_) 5 rfl rfl (by kernel_rfl) (by kernel_rfl) (fun _ _ _ h => h) (Or.inl ⟨by rfl, ?_⟩) hS ?_
  rotate_left
  · rintro W ⟨y, rfl⟩
    go_simp
    (try with_reducible rfl)
  simp only [Act.put, List.setIfInBounds_toArray, List.set_cons_zero, List.set_cons_succ]
  refine ord_take (v := ?_) 6 rfl rfl (by kernel_rfl) (by kernel_rfl) (fun _ _ _ h => h) (Or.inl ⟨by rfl, ?_⟩) hS ?_
  rotate_left
  · rintro W ⟨y, rfl⟩
    go_simp
    (try with_reducible rfl)
  simp only [Act.put, List.setIfInBounds_toArray, List.set_cons_zero, List.set_cons_succ]
  clear hS
  refine ord_one 1 rfl (by kernel_rfl) rfl ?_
  intro K hK
  go_simp
  refine (matOne_any _).mono ?_; rintro e wn ⟨rfl, b8⟩
  have Hn := btr HB b8
  refine hK.out _ _ (HG.out _ Hn) ?_
  clear hK K HB b8
  have HB := Hn
  clear Hn
  try simp only
  have hS := HG.out _ HB
  clear hS
  refine ord_one 7 rfl (by kernel_rfl) rfl ?_
  intro K hK
  go_simp
  refine (HO2.out _ (btr Qa HB)).mono ?_; rintro e wn ⟨b8, A2, c2, rfl, hsb⟩
  have Hn := btr HB b8
  refine hK.out _ _ (HG.out _ Hn) ?_
  clear hK K HB b8
  have HB := Hn
  clear Hn
  try simp only
  have hS := HG.out _ HB
  refine ord_take (v := ?_) 8 rfl rfl (by kernel_rfl) (by kernel_rfl) (fun _ _ _ h => h) (Or.inl ⟨by rfl, ?_⟩) hS ?_
  rotate_left
  · rintro W ⟨y, rfl⟩
    go_simp
    (try with_reducible rfl)
  simp only [Act.put, List.setIfInBounds_toArray, List.set_cons_zero, List.set_cons_succ]
  refine ord_take (v := ?_) 9 rfl rfl (by kernel_rfl) (by kernel_rfl) (fun _ _ _ h => h) (Or.inl ⟨by rfl, ?_⟩) hS ?_
  rotate_left
  · rintro W ⟨y, rfl⟩
    go_simp
    (try with_reducible rfl)
  simp only [Act.put, List.setIfInBounds_toArray, List.set_cons_zero, List.set_cons_succ]
  refine ord_take (v := ?_) 10 rfl rfl (by kernel_rfl) (by kernel_rfl) (fun _ _ _ h => h) (Or.inl ⟨by rfl, ?_⟩) hS ?_
  rotate_left
  · rintro W ⟨y, rfl⟩
    go_simp
    (try with_reducible rfl)
  simp only [Act.put, List.setIfInBounds_toArray, List.set_cons_zero, List.set_cons_succ]
  refine ord_take (v := ?_) 11 rfl rfl (by kernel_rfl) (by kernel_rfl) (fun _ _ _ h => h) (Or.inl ⟨by rfl, ?_⟩) hS ?_
  rotate_left
  · rintro W ⟨y, rfl⟩
    go_simp
    (try with_reducible rfl)
  simp only [Act.put, List.setIfInBounds_toArray, List.set_cons_zero, List.set_cons_succ]
  refine ord_take (v := ?_) 12 rfl rfl (by kernel_rfl) (by kernel_rfl) (fun _ _ _ h => h) (Or.inl ⟨by rfl, ?_⟩) hS ?_
  rotate_left
  · rintro W ⟨y, rfl⟩
    go_simp
    (try with_reducible rfl)
  simp only [Act.put, List.setIfInBounds_toArray, List.set_cons_zero, List.set_cons_succ]
  refine ord_take (v := ?_) 13 rfl rfl (by kernel_rfl) (by kernel_rfl) (fun _ _ _ h => h) (Or.inl ⟨by rfl, ?_⟩) hS ?_
  rotate_left
  · rintro W ⟨y, rfl⟩
    go_simp
    (try with_reducible rfl)
  simp only [Act.put, List.setIfInBounds_toArray, List.set_cons_zero, List.set_cons_succ]
  refine ord_take (v := ?_) 14 rfl rfl (by kernel_rfl) (by kernel_rfl) (fun _ _ _ h => h) (Or.inl ⟨by rfl, ?_⟩) hS ?_
  rotate_left
  · rintro W ⟨y, rfl⟩
    go_simp
    (try with_reducible rfl)
  simp only [Act.put, List.setIfInBounds_toArray, List.set_cons_zero, List.set_cons_succ]
  refine ord_take (v := ?_) 15 rfl rfl (by kernel_rfl) (by kernel_rfl) (fun _ _ _ h => h) (Or.inl ⟨by rfl, ?_⟩) hS ?_
  rotate_left
  · rintro W ⟨y, rfl⟩
    go_simp
    (try with_reducible rfl)
  simp only [Act.put, List.setIfInBounds_toArray, List.set_cons_zero, List.set_cons_succ]
  refine ord_take (v := ?_) 16 rfl rfl (by kernel_rfl) (by kernel_rfl) (fun _ _ _ h => h) (Or.inl ⟨by rfl, ?_⟩) hS ?_
  rotate_left
  · rintro W ⟨y, rfl⟩
    go_simp
    (try with_reducible rfl)
  simp only [Act.put, List.setIfInBounds_toArray, List.set_cons_zero, List.set_cons_succ]
  clear hS HG HAo
  refine ⟨by kernel_rfl, ?_⟩
  refine NoPanic.normal ?_
  obtain ⟨wb, hwb⟩ : ∃ W, W = wn := ⟨_, rfl⟩
  rw [← hwb] at HB hsb ⊢
  have Qb := btr Qa HB
  replace hsa := hsa.below HB
  clear hwb HB Qa HO2
  go_upto_region 7 with (fail)
  refine wp_region_ord (fun W => ∃ y : Grown wb, W = y.world) [] 15 (by kernel_rfl) (by kernel_rfl) ⟨⟨_, bdrew (Below.refl _ _)⟩, rfl⟩ ?_
  intro hS
  have HAo := Lib.hid fun (V : World) (hV : ∃ y : Grown wb, V = y.world) => (show BC V gF C by obtain ⟨y, rfl⟩ := hV; exact HFB.out _ (btr Qb y.below))
  have HG := Lib.hid (fun (V : World) (hV : Below wb.heap.size wb V) => (⟨⟨V, hV⟩, rfl⟩ : ∃ y : Grown wb, V = y.world))
  have HB := bdrew (Below.refl wb.heap.size wb)
  refine ord_take 0 rfl rfl (by kernel_rfl) (by kernel_rfl) (fun _ _ _ h => h) (yieldsIf_rec (by rfl) _ _ rfl _ rfl _ 9 foT HAo.out h9) hS ?_
  simp only [Act.put, List.setIfInBounds_toArray, List.set_cons_zero, List.set_cons_succ]
  refine ord_take (v := ?_) 1 rfl rfl (by kernel_rfl) (by kernel_rfl) (fun _ _ _ h => h) (Or.inl ⟨by rfl, ?_⟩) hS ?_
  rotate_left
  · rintro W ⟨y, rfl⟩
    go_simp
    (try with_reducible rfl)
  simp only [Act.put, List.setIfInBounds_toArray, List.set_cons_zero, List.set_cons_succ]
  refine ord_take (v := ?_) 2 rfl rfl (by kernel_rfl) (by kernel_rfl) (fun _ _ _ h => h) (Or.inl ⟨by rfl, ?_⟩) hS ?_
  rotate_left
  · rintro W ⟨y, rfl⟩
    go_simp
    (try with_reducible rfl)
  simp only [Act.put, List.setIfInBounds_toArray, List.set_cons_zero, List.set_cons_succ]
  refine ord_take (v := ?_) 4 rfl rfl (by kernel_rfl) (by kernel_rfl) (fun _ _ _ h => h) (Or.inl ⟨by rfl, ?_⟩) hS ?_
  rotate_left
  · rintro W ⟨y, rfl⟩
    go_simp
    (try with_reducible rfl)
  simp only [Act.put, List.setIfInBounds_toArray, List.set_cons_zero, List.set_cons_succ]
  clear hS
  refine ord_one 3 rfl (by kernel_rfl) rfl ?_
  intro K hK
  go_simp
  refine (HWH.out _).mono ?_; rintro e wn ⟨rfl, b8⟩
  have Hn := btr HB b8
  refine hK.out _ _ (HG.out _ Hn) ?_
  clear hK K HB b8
  have HB := Hn
  clear Hn
  try simp only
  have hS := HG.out _ HB
  clear hS
  refine ord_one 5 rfl (by kernel_rfl) rfl ?_
  intro K hK
  go_simp
  refine (HO3.out _ (btr Qb HB)).mono ?_; rintro e wn ⟨b8, A3, c3, rfl, hsc⟩
  have Hn := btr HB b8
  refine hK.out _ _ (HG.out _ Hn) ?_
  clear hK K HB b8
  have HB := Hn
  clear Hn
  try simp only
  have hS := HG.out _ HB
  refine ord_take (v := ?_) 6 rfl rfl (by kernel_rfl) (by kernel_rfl) (fun _ _ _ h => h) (Or.inl ⟨by rfl, ?_⟩) hS ?_
  rotate_left
  · rintro W ⟨y, rfl⟩
    go_simp
    (try with_reducible rfl)
  simp only [Act.put, List.setIfInBounds_toArray, List.set_cons_zero, List.set_cons_succ]
  refine ord_take (v := ?_) 7 rfl rfl (by kernel_rfl) (by kernel_rfl) (fun _ _ _ h => h) (Or.inl ⟨by rfl, ?_⟩) hS ?_
  rotate_left
  · rintro W ⟨y, rfl⟩
    go_simp
    (try with_reducible rfl)
  simp only [Act.put, List.setIfInBounds_toArray, List.set_cons_zero, List.set_cons_succ]
  refine ord_take (v := ?_) 8 rfl rfl (by kernel_rfl) (by kernel_rfl) (fun _ _ _ h => h) (Or.inl ⟨by rfl, ?_⟩) hS ?_
  rotate_left
  · rintro W ⟨y, rfl⟩
    go_simp
    (try with_reducible rfl)
  simp only [Act.put, List.setIfInBounds_toArray, List.set_cons_zero, List.set_cons_succ]
  refine ord_take (v := ?_) 9 rfl rfl (by kernel_rfl) (by kernel_rfl) (fun _ _ _ h => h) (Or.inl ⟨by rfl, ?_⟩) hS ?_
  rotate_left
  · rintro W ⟨y, rfl⟩
    go_simp
    (try with_reducible rfl)
  simp only [Act.put, List.setIfInBounds_toArray, List.set_cons_zero, List.set_cons_succ]
  refine ord_take (v := ?_) 10 rfl rfl (by kernel_rfl) (by kernel_rfl) (fun _ _ _ h => h) (Or.inl ⟨by rfl, ?_⟩) hS ?_
  rotate_left
  · rintro W ⟨y, rfl⟩
    go_simp
    (try with_reducible rfl)
  simp only [Act.put, List.setIfInBounds_toArray, List.set_cons_zero, List.set_cons_succ]
  refine ord_take (v := ?_) 11 rfl rfl (by kernel_rfl) (by kernel_rfl) (fun _ _ _ h => h) (Or.inl ⟨by rfl, ?_⟩) hS ?_
  rotate_left
  · rintro W ⟨y, rfl⟩
    go_simp
    (try with_reducible rfl)
  simp only [Act.put, List.setIfInBounds_toArray, List.set_cons_zero, List.set_cons_succ]
  refine ord_take (v := ?_) 12 rfl rfl (by kernel_rfl) (by kernel_rfl) (fun _ _ _ h => h) (Or.inl ⟨by rfl, ?_⟩) hS ?_
  rotate_left
  · rintro W ⟨y, rfl⟩
    go_simp
    (try with_reducible rfl)
  simp only [Act.put, List.setIfInBounds_toArray, List.set_cons_zero, List.set_cons_succ]
  refine ord_take (v := ?_) 13 rfl rfl (by kernel_rfl) (by kernel_rfl) (fun _ _ _ h => h) (Or.inl ⟨by rfl, ?_⟩) hS ?_
  rotate_left
  · rintro W ⟨y, rfl⟩
    go_simp
    (try with_reducible rfl)
  simp only [Act.put, List.setIfInBounds_toArray, List.set_cons_zero, List.set_cons_succ]
  refine ord_take (v := ?_) 14 rfl rfl (by kernel_rfl) (by kernel_rfl) (fun _ _ _ h => h) (Or.inl ⟨by rfl, ?_⟩) hS ?_
  rotate_left
  · rintro W ⟨y, rfl⟩
    go_simp
    (try with_reducible rfl)
  simp only [Act.put, List.setIfInBounds_toArray, List.set_cons_zero, List.set_cons_succ]
  clear hS HG HAo
  refine ⟨by kernel_rfl, ?_⟩
  refine NoPanic.normal ?_
  have Qc := btr Qb HB
  have HS2 := Lib.hid (HSH.out A1 c1 _ (hsa.below HB))
  replace hsb := hsb.below HB
  clear HB Qb HO3 hsa HSH HWH
  go_wp2_with fail
  refine HS2.out.mono ?_; rintro e wd ⟨A4, c4, rfl, ho4, b9⟩
  have hsd := own_sl ho4
  replace hsb := hsb.below b9
  replace hsc := hsc.below b9
  have Qd := btr Qc b9
  clear HS2 ho4 Qc b9
  go_wp2_with fail
  refine (sameSg_any _ _ _ _ _ _ M _ hn6 hsb hsd).mono ?_; rintro e w12 ⟨rfl, q7, rfl⟩
  go_wp2_with fail
  refine (sameSg_any _ _ _ _ _ _ M _ hn6 (hsc.drewN _) (hsd.drewN _)).mono ?_; rintro e w12 ⟨rfl, q8, rfl⟩
  go_wp2_with fail
  go_ret
  exact ⟨rfl, by first | exact bdrewN (bdrewN (btr B6 Qd) _) _ | exact bdrewN (btr B6 Qd) _ | exact btr B6 Qd⟩
end Go.Proofs.Ytahiffaocakhjaa
