/- FontScales: the walk. -/
import Derived.Test.YtahiffaocakhjaaMFt
import Derived.Test.YtahiffaocakhjaaFontTm
namespace Go.Proofs.Ytahiffaocakhjaa
open Go.RowKit Go.BigFrame

theorem put_FS {W : World} {C : List Value} (h9 : C.length = 9) : ∃ W1, W1 = (W.alloc (.cells foZ.toArray 30)).setCells W.heap.size 0 C ∧
    BC (W.alloc (.cells foZ.toArray 30)) W.heap.size foZ ∧ BC W1 W.heap.size C ∧ Below W.heap.size W W1 := by
  have b0 : BC (W.alloc (.cells foZ.toArray 30)) W.heap.size foZ := BC.new foZ 30 rfl
  exact ⟨_, rfl, b0, b0.putAll C (by rw [h9]; rfl), below_setCells (Nat.le_refl _) _ _ _ (bal (Below.refl _ _) _)⟩
theorem let_cells {w : World} {F : Fo} {C : List Value} {c : Nat} {x : Le} (h : FoAt w F C) (hx : F.lets[c]? = some x) : ∃ (b off d n : Nat), C[7]? = some (.slice (some ⟨b, off, none⟩) n d) ∧ c < n ∧ b < w.heap.size ∧ w.cell? ⟨b, off + c * 2, none⟩ = some (.string x.name) ∧ w.cell? ⟨b, off + c * 2 + 1, none⟩ = some (.string x.prog) := by
  obtain ⟨ok, A, B, E, ca, cb, ce, rfl, h1, h2, h3⟩ := h
  obtain ⟨hc, e⟩ := List.getElem?_eq_some_iff.1 hx
  obtain ⟨b, off, rfl, hb, d0, d1⟩ := h2.le c hc hc
  rw [e] at d0 d1
  exact ⟨b, off, cb, F.lets.length, rfl, hc, hb, d0, d1⟩
set_option maxRecDepth 100000 in
set_option maxHeartbeats 8000000 in
theorem FontScales_any (A : Option Addr) (n c : Nat) (A' : Option Addr) (n' c' : Nat) (by_ cb : Int) (w : World) (h : InA w A n) (hnc : n ≤ c) (hcm : c ≤ 9223372036854775807)
    (h' : InA w A' n') (hnc' : n' ≤ c') (hcm' : c' ≤ 9223372036854775807) (hcb : 0 ≤ cb ∧ cb ≤ 255) :
    Calls Try.prog 3 #[.slice A n c, .slice A' n' c', .int .i64 by_, .int .u8 cb] w fun e w' => e = .returned (.bool true) ∧ Below w.heap.size w w' := by
  obtain ⟨zs, hz⟩ := h.sl
  obtain ⟨ts, ht⟩ := h'.sl
  have HMD := Lib.hid fun W (hb : Below w.heap.size w W) => Made41_any A n c zs W hnc hcm (hz.below hb)
  have HTX := Lib.hid fun W (hb : Below w.heap.size w W) => text_any A' n' c' ts W hnc' hcm' (ht.below hb)
  clear h h' hnc hcm hnc' hcm' hz ht
  go_enter Try.func3, Try.ntmps3
  go_wp2_with fail
  refine (known41_any _).mono ?_; rintro e w1 ⟨rfl, b1⟩
  go_wp2_with fail
  refine (HMD.out _ b1).mono ?_; rintro e w2 ⟨F, C, rfl, hFo, hMF, b2⟩
  have B2 := btr b1 b2
  go_wp2_with fail
  refine (HTX.out _ B2).mono ?_; rintro e w4 ⟨s, rfl, hbs, b3⟩
  have B4 := btr B2 b3
  have hFo4 := hFo.below b3
  have h9 := hFo4.len
  have h1c := one_foC hFo4
  obtain ⟨w6, hw6, Z0, F6, b6⟩ := put_FS (W := w4) h9
  have HW6 := Lib.hid hw6
  have hFo6 := hFo4.below b6
  have B6 := btr B4 b6
  have hz1 : foZ.toArray = #[.int .i64 0, .int .i64 0, .int .i64 0, .int .i64 0, .int .i64 0, .int .i64 0, .slice none 0 0, .slice none 0 0, .slice none 0 0] := rfl
  rw [hz1] at Z0 HW6
  obtain ⟨gF, hgF⟩ : ∃ g, g = w4.heap.size := ⟨_, rfl⟩
  have HGF := Lib.hid hgF
  rw [← hgF] at F6
  obtain ⟨k, hk, hm⟩ := font_is hMF
  have hur := placeI_range by_ 5 (by omega)
  have HPX := Lib.hid fun W => Place_any by_ 5 W (by omega) (by omega)
  obtain ⟨u0, hu0⟩ : ∃ z, placeI by_ 5 = z := ⟨_, rfl⟩
  rw [hu0] at hur HPX
  obtain ⟨kk, hkk⟩ : ∃ z, z = 1 + u0 := ⟨_, rfl⟩
  have hw1 : IntKind.i64.wrap (1 + u0) = kk := by rw [hkk]; exact IntWalk.i64_in _ (by omega)
  have hk5 : 1 ≤ kk ∧ kk ≤ 5 := by omega
  obtain ⟨ch, hch⟩ : ∃ z : Nat, z = (cb % 3).toNat := ⟨_, rfl⟩
  have hc3 : ch < 3 := by omega
  have htm : cb.tmod 3 = (ch : Int) := by rw [hch, Int.tmod_eq_emod_of_nonneg hcb.1]; omega
  clear hch
  have h8 : (bl s).length ≤ 8 := by rw [hbs]; exact textN_len ts
  have hlt : ∀ b ∈ bl s, b < 3 := by rw [hbs]; exact textN_lt ts
  obtain ⟨l, p1, x, L, wd, E1, E2, E3, E4, E5, E6, hml, hmL, hl48, hL6⟩ := scales_law hMF hk hm hk5 hlt h8 hc3
  have hz3 : s.size ≤ 1000000 := by rw [← bl_len]; omega
  obtain ⟨M, hM⟩ : ∃ M, l.map (tmS kk) = M := ⟨_, rfl⟩
  have hML : M.length = l.length := by rw [← hM, List.length_map]
  rw [hM] at E2
  obtain ⟨T, hT⟩ : ∃ T, L.map (tmS k) = T := ⟨_, rfl⟩
  have hTL : T.length = L.length := by rw [← hT, List.length_map]
  rw [hT] at E6
  have HFB := Lib.hid fun V (hV : Below w6.heap.size w6 V) => F6.below hV
  have HFo := Lib.hid fun V (hV : Below w6.heap.size w6 V) => hFo6.below hV
  have HO1 := Lib.hid fun V (hV : Below w6.heap.size w6 V) => outline_any F C oneM 0 0 s ((l, p1 * 65536, 0), 0) V hz3 (HFo.out V hV) E1
  have HO2 := Lib.hid fun V (hV : Below w6.heap.size w6 V) => outline_any F C (wholeM kk 0 0 kk 0 0) 0 0 s ((M, p1 * 65536, 0), 0) V hz3 (HFo.out V hV) E2
  have HPA := Lib.hid fun V (hV : Below w6.heap.size w6 V) => fontPath_any F C oneM 0 0 ch (T, 0) V (by omega) (HFo.out V hV) E6
  have HWH := Lib.hid fun W => Whole_any kk 0 0 kk 0 0 W (by omega)
  obtain ⟨nl, hnl⟩ : ∃ n, n = l.length := ⟨_, rfl⟩
  obtain ⟨nL, hnL⟩ : ∃ n, n = L.length := ⟨_, rfl⟩
  have HRU := Lib.hid fun V => Run_is (n := nL) V (show x.prog.size ≤ 1000000 by omega) E5 hnL.symm
  have HT1 := Lib.hid fun A1 c1 V (h1 : Sl V 5 A1 nl (sgs l)) => times_any A1 nl c1 kk l V hk5 h1 hml
  have HT2 := Lib.hid fun A1 c1 V (h1 : Sl V 5 A1 nL (sgs L)) => times_any A1 nL c1 k L V (by omega) h1 hmL
  rw [hM] at HT1
  rw [hT] at HT2
  simp only [vm, Int.zero_mul] at HO1 HO2 HPA HWH
  rw [hML, ← hnl] at HO2
  rw [← hnl] at HO1
  rw [hTL, ← hnL] at HPA
  have hn6 : nl ≤ 1000000 := by omega
  have hnL6 : nL ≤ 1000000 := by omega
  have HLX := Lib.hid fun V (hV : Below w6.heap.size w6 V) => let_cells (HFo.out V hV) E3
  have HMA := Lib.hid hm
  have GR := Below.refl w6.heap.size w6
  have hdv : (k * 65536).tdiv 65536 = k := Int.mul_tdiv_cancel k (by omega)
  have HK3 := Lib.hid hk
  clear hu0 hkk h8 hlt E1 E2 E3 E4 E5 E6 hz3 hM hML hT hTL hnl hnL hz1 hw6 hgF hbs hm hk F6 hFo6 hFo4 hFo hMF b1 b2 b3 b6 B2 B4 hur hml hmL hl48 hL6 hk5
  go_wp2_with (first
    | (refine wpList_store_rec rfl _ _ _ rfl w4.heap.size C _ rfl rfl 9 foT Z0 rfl h9 h1c ?_; rw [← HW6.out])
    | fail)
  refine (HPX.out _).mono ?_; rintro e w' ⟨rfl, rfl⟩
  rw [← HGF.out]
  clear Z0 HW6 h1c HGF HPX
  go_upto_region 5 with (fail)
  refine wp_region_ord (fun W => ∃ y : Grown w6, W = y.world) [] 13 (by kernel_rfl) (by kernel_rfl) ⟨⟨_, bdrew (Below.refl _ _)⟩, rfl⟩ ?_
  intro hS
  have HAo := Lib.hid fun (V : World) (hV : ∃ y : Grown w6, V = y.world) => (show BC V gF C by obtain ⟨y, rfl⟩ := hV; exact HFB.out _ (btr GR y.below))
  have HG := Lib.hid (fun (V : World) (hV : Below w6.heap.size w6 V) => (⟨⟨V, hV⟩, rfl⟩ : ∃ y : Grown w6, V = y.world))
  have HB := bdrew (Below.refl w6.heap.size w6)
  refine ord_take 0 rfl rfl (by kernel_rfl) (by kernel_rfl) (fun _ _ _ h => h) (yieldsIf_rec (by rfl) _ _ rfl _ rfl _ 9 foT HAo.out h9) hS ?_
  simp only [Act.put, List.setIfInBounds_toArray, List.set_cons_zero, List.set_cons_succ]
  refine ord_take (v := ?_) 2 rfl rfl (by kernel_rfl) (by kernel_rfl) (fun _ _ _ h => h) (Or.inl ⟨by rfl, ?_⟩) hS ?_
  rotate_left
  · rintro W ⟨y, rfl⟩
    go_simp
    (try with_reducible rfl)
  simp only [Act.put, List.setIfInBounds_toArray, List.set_cons_zero, List.set_cons_succ]
  clear hS
  refine ord_one 1 rfl (by kernel_rfl) rfl ?_
  intro K hK
  go_simp
  refine (matOne_any _).mono ?_; rintro e wn ⟨rfl, b8⟩
  have Hn := btr HB b8
  refine hK.out _ _ (HG.out _ Hn) ?_
  clear hK K HB b8
  have HB := Hn
  clear Hn
  try simp only
  have hS := HG.out _ HB
  clear hS
  refine ord_one 3 rfl (by kernel_rfl) rfl ?_
  intro K hK
  go_simp
  refine (HO1.out _ (btr GR HB)).mono ?_; rintro e wn ⟨b8, A1, c1, rfl, hsa⟩
  have Hn := btr HB b8
  refine hK.out _ _ (HG.out _ Hn) ?_
  clear hK K HB b8
  have HB := Hn
  clear Hn
  try simp only
  have hS := HG.out _ HB
  refine ord_take (v := ?_) 4 rfl rfl (by kernel_rfl) (by kernel_rfl) (fun _ _ _ h => h) (Or.inl ⟨by rfl, ?_⟩) hS ?_
  rotate_left
  · rintro W ⟨y, rfl⟩
    go_simp
    (try with_reducible rfl)
  simp only [Act.put, List.setIfInBounds_toArray, List.set_cons_zero, List.set_cons_succ]
  refine ord_take (v := ?_) 5 rfl rfl (by kernel_rfl) (by kernel_rfl) (fun _ _ _ h => h) (Or.inl ⟨by rfl, ?_⟩) hS ?_
  rotate_left
  · rintro W ⟨y, rfl⟩
    go_simp
    (try with_reducible rfl)
  simp only [Act.put, List.setIfInBounds_toArray, List.set_cons_zero, List.set_cons_succ]
  refine ord_take (v := ?_) 6 rfl rfl (by kernel_rfl) (by kernel_rfl) (fun _ _ _ h => h) (Or.inl ⟨by rfl, ?_⟩) hS ?_
  rotate_left
  · rintro W ⟨y, rfl⟩
    go_simp
    (try with_reducible rfl)
  simp only [Act.put, List.setIfInBounds_toArray, List.set_cons_zero, List.set_cons_succ]
  refine ord_take (v := ?_) 7 rfl rfl (by kernel_rfl) (by kernel_rfl) (fun _ _ _ h => h) (Or.inl ⟨by rfl, ?_⟩) hS ?_
  rotate_left
  · rintro W ⟨y, rfl⟩
    go_simp
    (try with_reducible rfl)
  simp only [Act.put, List.setIfInBounds_toArray, List.set_cons_zero, List.set_cons_succ]
  refine ord_take (v := ?_) 8 rfl rfl (by kernel_rfl) (by kernel_rfl) (fun _ _ _ h => h) (Or.inl ⟨by rfl, ?_⟩) hS ?_
  rotate_left
  · rintro W ⟨y, rfl⟩
    go_simp
    (try with_reducible rfl)
  simp only [Act.put, List.setIfInBounds_toArray, List.set_cons_zero, List.set_cons_succ]
  refine ord_take (v := ?_) 9 rfl rfl (by kernel_rfl) (by kernel_rfl) (fun _ _ _ h => h) (Or.inl ⟨by rfl, ?_⟩) hS ?_
  rotate_left
  · rintro W ⟨y, rfl⟩
    go_simp
    (try with_reducible rfl)
  simp only [Act.put, List.setIfInBounds_toArray, List.set_cons_zero, List.set_cons_succ]
  refine ord_take (v := ?_) 10 rfl rfl (by kernel_rfl) (by kernel_rfl) (fun _ _ _ h => h) (Or.inl ⟨by rfl, ?_⟩) hS ?_
  rotate_left
  · rintro W ⟨y, rfl⟩
    go_simp
    (try with_reducible rfl)
  simp only [Act.put, List.setIfInBounds_toArray, List.set_cons_zero, List.set_cons_succ]
  refine ord_take (v := ?_) 11 rfl rfl (by kernel_rfl) (by kernel_rfl) (fun _ _ _ h => h) (Or.inl ⟨by rfl, ?_⟩) hS ?_
  rotate_left
  · rintro W ⟨y, rfl⟩
    go_simp
    (try with_reducible rfl)
  simp only [Act.put, List.setIfInBounds_toArray, List.set_cons_zero, List.set_cons_succ]
  refine ord_take (v := ?_) 12 rfl rfl (by kernel_rfl) (by kernel_rfl) (fun _ _ _ h => h) (Or.inl ⟨by rfl, ?_⟩) hS ?_
  rotate_left
  · rintro W ⟨y, rfl⟩
    go_simp
    (try with_reducible rfl)
  simp only [Act.put, List.setIfInBounds_toArray, List.set_cons_zero, List.set_cons_succ]
  clear hS HG HAo
  refine ⟨by kernel_rfl, ?_⟩
  refine NoPanic.normal ?_
  obtain ⟨wa, hwa⟩ : ∃ W, W = wn := ⟨_, rfl⟩
  rw [← hwa] at HB hsa ⊢
  have Qa := HB
  clear hwa HB GR HO1
  go_upto_region 6 with (fail)
  refine wp_region_ord (fun W => ∃ y : Grown wa, W = y.world) [] 15 (by kernel_rfl) (by kernel_rfl) ⟨⟨_, bdrew (Below.refl _ _)⟩, rfl⟩ ?_
  intro hS
  have HAo := Lib.hid fun (V : World) (hV : ∃ y : Grown wa, V = y.world) => (show BC V gF C by obtain ⟨y, rfl⟩ := hV; exact HFB.out _ (btr Qa y.below))
  have HG := Lib.hid (fun (V : World) (hV : Below wa.heap.size wa V) => (⟨⟨V, hV⟩, rfl⟩ : ∃ y : Grown wa, V = y.world))
  have HB := bdrew (Below.refl wa.heap.size wa)
  refine ord_take 0 rfl rfl (by kernel_rfl) (by kernel_rfl) (fun _ _ _ h => h) (yieldsIf_rec (by rfl) _ _ rfl _ rfl _ 9 foT HAo.out h9) hS ?_
  simp only [Act.put, List.setIfInBounds_toArray, List.set_cons_zero, List.set_cons_succ]
  refine ord_take (v := ?_) 1 rfl rfl (by kernel_rfl) (by kernel_rfl) (fun _ _ _ h => h) (Or.inl ⟨by rfl, ?_⟩) hS ?_
  rotate_left
  · rintro W ⟨y, rfl⟩
    go_simp
    (try with_reducible rfl)
  simp only [Act.put, List.setIfInBounds_toArray, List.set_cons_zero, List.set_cons_succ]
  refine ord_take (v := ?_) 2 rfl rfl (by kernel_rfl) (by kernel_rfl) (fun _ _ _ h => h) (Or.inl ⟨by rfl, ?_⟩) hS ?_
  rotate_left
  · rintro W ⟨y, rfl⟩
    go_simp
    (try with_reducible rfl)
  simp only [Act.put, List.setIfInBounds_toArray, List.set_cons_zero, List.set_cons_succ]
  refine ord_take (v := ?_) 4 rfl rfl (by kernel_rfl) (by kernel_rfl) (fun _ _ _ h => h) (Or.inl ⟨by rfl, ?_⟩) hS ?_
  rotate_left
  · rintro W ⟨y, rfl⟩
    go_simp
    (try with_reducible rfl)
  simp only [Act.put, List.setIfInBounds_toArray, List.set_cons_zero, List.set_cons_succ]
  clear hS
  refine ord_one 3 rfl (by kernel_rfl) rfl ?_
  intro K hK
  go_simp
  refine (HWH.out _).mono ?_; rintro e wn ⟨rfl, b8⟩
  have Hn := btr HB b8
  refine hK.out _ _ (HG.out _ Hn) ?_
  clear hK K HB b8
  have HB := Hn
  clear Hn
  try simp only
  have hS := HG.out _ HB
  clear hS
  refine ord_one 5 rfl (by kernel_rfl) rfl ?_
  intro K hK
  go_simp
  refine (HO2.out _ (btr Qa HB)).mono ?_; rintro e wn ⟨b8, A2, c2, rfl, hsb⟩
  have Hn := btr HB b8
  refine hK.out _ _ (HG.out _ Hn) ?_
  clear hK K HB b8
  have HB := Hn
  clear Hn
  try simp only
  have hS := HG.out _ HB
  refine ord_take (v := ?_) 6 rfl rfl (by kernel_rfl) (by kernel_rfl) (fun _ _ _ h => h) (Or.inl ⟨by rfl, ?_⟩) hS ?_
  rotate_left
  · rintro W ⟨y, rfl⟩
    go_simp
    (try with_reducible rfl)
  simp only [Act.put, List.setIfInBounds_toArray, List.set_cons_zero, List.set_cons_succ]
  refine ord_take (v := ?_) 7 rfl rfl (by kernel_rfl) (by kernel_rfl) (fun _ _ _ h => h) (Or.inl ⟨by rfl, ?_⟩) hS ?_
  rotate_left
  · rintro W ⟨y, rfl⟩
    go_simp
    (try with_reducible rfl)
  simp only [Act.put, List.setIfInBounds_toArray, List.set_cons_zero, List.set_cons_succ]
  refine ord_take (v := ?_) 8 rfl rfl (by kernel_rfl) (by kernel_rfl) (fun _ _ _ h => h) (Or.inl ⟨by rfl, ?_⟩) hS ?_
  rotate_left
  · rintro W ⟨y, rfl⟩
    go_simp
    (try with_reducible rfl)
  simp only [Act.put, List.setIfInBounds_toArray, List.set_cons_zero, List.set_cons_succ]
  refine ord_take (v := ?_) 9 rfl rfl (by kernel_rfl) (by kernel_rfl) (fun _ _ _ h => h) (Or.inl ⟨by rfl, ?_⟩) hS ?_
  rotate_left
  · rintro W ⟨y, rfl⟩
    go_simp
    (try with_reducible rfl)
  simp only [Act.put, List.setIfInBounds_toArray, List.set_cons_zero, List.set_cons_succ]
  refine ord_take (v := ?_) 10 rfl rfl (by kernel_rfl) (by kernel_rfl) (fun _ _ _ h => h) (Or.inl ⟨by rfl, ?_⟩) hS ?_
  rotate_left
  · rintro W ⟨y, rfl⟩
    go_simp
    (try with_reducible rfl)
  simp only [Act.put, List.setIfInBounds_toArray, List.set_cons_zero, List.set_cons_succ]
  refine ord_take (v := ?_) 11 rfl rfl (by kernel_rfl) (by kernel_rfl) (fun _ _ _ h => h) (Or.inl ⟨by rfl, ?_⟩) hS ?_
  rotate_left
  · rintro W ⟨y, rfl⟩
    go_simp
    (try with_reducible rfl)
  simp only [Act.put, List.setIfInBounds_toArray, List.set_cons_zero, List.set_cons_succ]
  refine ord_take (v := ?_) 12 rfl rfl (by kernel_rfl) (by kernel_rfl) (fun _ _ _ h => h) (Or.inl ⟨by rfl, ?_⟩) hS ?_
  rotate_left
  · rintro W ⟨y, rfl⟩
    go_simp
    (try with_reducible rfl)
  simp only [Act.put, List.setIfInBounds_toArray, List.set_cons_zero, List.set_cons_succ]
  refine ord_take (v := ?_) 13 rfl rfl (by kernel_rfl) (by kernel_rfl) (fun _ _ _ h => h) (Or.inl ⟨by rfl, ?_⟩) hS ?_
  rotate_left
  · rintro W ⟨y, rfl⟩
    go_simp
    (try with_reducible rfl)
  simp only [Act.put, List.setIfInBounds_toArray, List.set_cons_zero, List.set_cons_succ]
  refine ord_take (v := ?_) 14 rfl rfl (by kernel_rfl) (by kernel_rfl) (fun _ _ _ h => h) (Or.inl ⟨by rfl, ?_⟩) hS ?_
  rotate_left
  · rintro W ⟨y, rfl⟩
    go_simp
    (try with_reducible rfl)
  simp only [Act.put, List.setIfInBounds_toArray, List.set_cons_zero, List.set_cons_succ]
  clear hS HG HAo
  refine ⟨by kernel_rfl, ?_⟩
  refine NoPanic.normal ?_
  obtain ⟨wb, hwb⟩ : ∃ W, W = wn := ⟨_, rfl⟩
  rw [← hwb] at HB hsb ⊢
  have Qb := btr Qa HB
  replace hsa := hsa.below HB
  clear hwb HB Qa HO2 HWH
  go_upto_region 7 with (fail)
  refine wp_region_ord (fun W => ∃ y : Grown wb, W = y.world) [] 10 (by kernel_rfl) (by kernel_rfl) ⟨⟨_, bdrew (Below.refl _ _)⟩, rfl⟩ ?_
  intro hS
  have HAo := Lib.hid fun (V : World) (hV : ∃ y : Grown wb, V = y.world) => (show BC V gF C by obtain ⟨y, rfl⟩ := hV; exact HFB.out _ (btr Qb y.below))
  have HG := Lib.hid (fun (V : World) (hV : Below wb.heap.size wb V) => (⟨⟨V, hV⟩, rfl⟩ : ∃ y : Grown wb, V = y.world))
  have HB := bdrew (Below.refl wb.heap.size wb)
  refine ord_take 0 rfl rfl (by kernel_rfl) (by kernel_rfl) (fun _ _ _ h => h) (yieldsIf_rec (by rfl) _ _ rfl _ rfl _ 9 foT HAo.out h9) hS ?_
  simp only [Act.put, List.setIfInBounds_toArray, List.set_cons_zero, List.set_cons_succ]
  refine ord_take (v := ?_) 2 rfl rfl (by kernel_rfl) (by kernel_rfl) (fun _ _ _ h => h) (Or.inl ⟨by rfl, ?_⟩) hS ?_
  rotate_left
  · rintro W ⟨y, rfl⟩
    go_simp
    (try with_reducible rfl)
  simp only [Act.put, List.setIfInBounds_toArray, List.set_cons_zero, List.set_cons_succ]
  refine ord_take (v := ?_) 3 rfl rfl (by kernel_rfl) (by kernel_rfl) (fun _ _ _ h => h) (Or.inl ⟨by rfl, ?_⟩) hS ?_
  rotate_left
  · rintro W ⟨y, rfl⟩
    go_simp
    (try with_reducible rfl)
  simp only [Act.put, List.setIfInBounds_toArray, List.set_cons_zero, List.set_cons_succ]
  clear hS
  refine ord_one 1 rfl (by kernel_rfl) rfl ?_
  intro K hK
  go_simp
  refine (matOne_any _).mono ?_; rintro e wn ⟨rfl, b8⟩
  have Hn := btr HB b8
  refine hK.out _ _ (HG.out _ Hn) ?_
  clear hK K HB b8
  have HB := Hn
  clear Hn
  try simp only
  have hS := HG.out _ HB
  clear hS
  refine ord_one 4 rfl (by kernel_rfl) rfl ?_
  intro K hK
  go_simp
  (try rw [htm])
  refine (HPA.out _ (btr Qb HB)).mono ?_; rintro e wn ⟨b8, A3, c3, rfl, hsc⟩
  have Hn := btr HB b8
  refine hK.out _ _ (HG.out _ Hn) ?_
  clear hK K HB b8
  have HB := Hn
  clear Hn
  try simp only
  have hS := HG.out _ HB
  refine ord_take (v := ?_) 5 rfl rfl (by kernel_rfl) (by kernel_rfl) (fun _ _ _ h => h) (Or.inl ⟨by rfl, ?_⟩) hS ?_
  rotate_left
  · rintro W ⟨y, rfl⟩
    go_simp
    (try with_reducible rfl)
  simp only [Act.put, List.setIfInBounds_toArray, List.set_cons_zero, List.set_cons_succ]
  refine ord_take (v := ?_) 6 rfl rfl (by kernel_rfl) (by kernel_rfl) (fun _ _ _ h => h) (Or.inl ⟨by rfl, ?_⟩) hS ?_
  rotate_left
  · rintro W ⟨y, rfl⟩
    go_simp
    (try with_reducible rfl)
  simp only [Act.put, List.setIfInBounds_toArray, List.set_cons_zero, List.set_cons_succ]
  refine ord_take (v := ?_) 7 rfl rfl (by kernel_rfl) (by kernel_rfl) (fun _ _ _ h => h) (Or.inl ⟨by rfl, ?_⟩) hS ?_
  rotate_left
  · rintro W ⟨y, rfl⟩
    go_simp
    (try with_reducible rfl)
  simp only [Act.put, List.setIfInBounds_toArray, List.set_cons_zero, List.set_cons_succ]
  refine ord_take (v := ?_) 8 rfl rfl (by kernel_rfl) (by kernel_rfl) (fun _ _ _ h => h) (Or.inl ⟨by rfl, ?_⟩) hS ?_
  rotate_left
  · rintro W ⟨y, rfl⟩
    go_simp
    (try with_reducible rfl)
  simp only [Act.put, List.setIfInBounds_toArray, List.set_cons_zero, List.set_cons_succ]
  refine ord_take (v := ?_) 9 rfl rfl (by kernel_rfl) (by kernel_rfl) (fun _ _ _ h => h) (Or.inl ⟨by rfl, ?_⟩) hS ?_
  rotate_left
  · rintro W ⟨y, rfl⟩
    go_simp
    (try with_reducible rfl)
  simp only [Act.put, List.setIfInBounds_toArray, List.set_cons_zero, List.set_cons_succ]
  clear hS HG HAo
  refine ⟨by kernel_rfl, ?_⟩
  refine NoPanic.normal ?_
  obtain ⟨wc, hwc⟩ : ∃ W, W = wn := ⟨_, rfl⟩
  rw [← hwc] at HB hsc ⊢
  have Qc := btr Qb HB
  replace hsa := hsa.below HB
  replace hsb := hsb.below HB
  clear hwc HB Qb HPA
  obtain ⟨bl_, off, dd, nn, hC7, hcn, hbb, d0, d1⟩ := HLX.out wc Qc
  have a7 := (HFB.out _ Qc).c 7 _ hC7
  clear hC7 d0 HLX
  go_wp2_with fail
  refine (HRU.out _).mono ?_; rintro e wd ⟨A4, c4, rfl, hsd, b9⟩
  replace hsa := hsa.below b9
  replace hsb := hsb.below b9
  replace hsc := hsc.below b9
  have Qd := btr Qc b9
  clear HRU Qc b9 a7 d1 hbb
  go_wp2_with fail
  refine (HT1.out A1 c1 _ hsa).mono ?_; rintro e we ⟨A5, c5, rfl, hse, b10⟩
  replace hsb := hsb.below b10
  replace hsc := hsc.below b10
  replace hsd := hsd.below b10
  have Qe := btr Qd b10
  clear HT1 hsa Qd b10
  go_wp2_with fail
  refine (sameSg_any _ _ _ _ _ _ M _ hn6 hsb hse).mono ?_; rintro e w12 ⟨rfl, q7, rfl⟩
  have a0 := (HFB.out _ Qe).c 0 _ (fo_c0 (HFo.out _ Qe))
  rw [HMA.out] at a0
  have a0' : we.cell? ⟨gF, 0, none⟩ = some (.int .i64 (k * 65536)) := a0
  clear a0 hsb hse
  go_wp2_with fail
  rw [show wrap64 k = k from IntWalk.wrap64_in _ (by have := HK3.out; omega)]
  refine (HT2.out A4 c4 _ (hsd.drewN _)).mono ?_; rintro e wf ⟨A6, c6, rfl, hsf, b11⟩
  have hsc2 := (hsc.drewN q7).below b11
  have Qf := btr (bdrewN Qe q7) b11
  clear HT2 hsd hsc a0' Qe b11
  go_wp2_with fail
  refine (sameSg_any _ _ _ _ _ _ T _ hnL6 hsc2 hsf).mono ?_; rintro e w13 ⟨rfl, q8, rfl⟩
  go_wp2_with fail
  go_ret
  exact ⟨rfl, bdrewN (btr B6 Qf) _⟩
end Go.Proofs.Ytahiffaocakhjaa
