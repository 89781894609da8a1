/- FontTurns: the walk. -/
import Derived.Test.YtaphmonpdnbiiaaMFt
import Derived.Test.YtaphmonpdnbiiaaFTurnP
import Derived.Test.YtaphmonpdnbiiaaMMay
namespace Go.Proofs.Ytaphmonpdnbiiaa
open Go.RowKit Go.BigFrame

theorem idx_c (kq : Nat) (h : kq < 4) (w : World) : (Instr.index 40 (.agg #[.int .i64 1, .int .i64 0, .int .i64 (-1), .int .i64 0]) (.int .i64 (kq : Int))).run Try.prog w = .ok (.int .i64 (cq kq)) w := by
  rcases (show kq = 0 ∨ kq = 1 ∨ kq = 2 ∨ kq = 3 by omega) with rfl | rfl | rfl | rfl <;> kernel_rfl
theorem idx_d (kq : Nat) (h : kq < 4) (w : World) : (Instr.index 40 (.agg #[.int .i64 0, .int .i64 1, .int .i64 0, .int .i64 (-1)]) (.int .i64 (kq : Int))).run Try.prog w = .ok (.int .i64 (dq kq)) w := by
  rcases (show kq = 0 ∨ kq = 1 ∨ kq = 2 ∨ kq = 3 by omega) with rfl | rfl | rfl | rfl <;> kernel_rfl
theorem put_FU {W : World} {C : List Value} (h9 : C.length = 9) : ∃ W1, W1 = (W.alloc (.cells foZ.toArray 30)).setCells W.heap.size 0 C ∧
    BC (W.alloc (.cells foZ.toArray 30)) W.heap.size foZ ∧ BC W1 W.heap.size C ∧ Below W.heap.size W W1 := by
  have b0 : BC (W.alloc (.cells foZ.toArray 30)) W.heap.size foZ := BC.new foZ 30 rfl
  exact ⟨_, rfl, b0, b0.putAll C (by rw [h9]; rfl), below_setCells (Nat.le_refl _) _ _ _ (bal (Below.refl _ _) _)⟩
set_option maxRecDepth 100000 in
set_option maxHeartbeats 8000000 in
theorem FontTurns_any (A : Option Addr) (n c : Nat) (A' : Option Addr) (n' c' : Nat) (by_ : Int) (w : World) (h : InA w A n) (hnc : n ≤ c) (hcm : c ≤ 9223372036854775807)
    (h' : InA w A' n') (hnc' : n' ≤ c') (hcm' : c' ≤ 9223372036854775807) :
    Calls Try.prog 3 #[.slice A n c, .slice A' n' c', .int .i64 by_] w fun e w' => e = .returned (.bool true) ∧ Below w.heap.size w w' := by
  obtain ⟨zs, hz⟩ := h.sl
  obtain ⟨ts, ht⟩ := h'.sl
  have HMD := Lib.hid fun W (hb : Below w.heap.size w W) => Made41_any A n c zs W hnc hcm (hz.below hb)
  have HTX := Lib.hid fun W (hb : Below w.heap.size w W) => text_any A' n' c' ts W hnc' hcm' (ht.below hb)
  clear h h' hnc hcm hnc' hcm' hz ht
  go_enter Try.func3, Try.ntmps3
  go_wp2_with fail
  refine (known41_any _).mono ?_; rintro e w1 ⟨rfl, b1⟩
  go_wp2_with fail
  refine (HMD.out _ b1).mono ?_; rintro e w2 ⟨F, C, rfl, hFo, hMF, b2⟩
  have B2 := btr b1 b2
  go_wp2_with fail
  refine (HTX.out _ B2).mono ?_; rintro e w4 ⟨s, rfl, hbs, b3⟩
  have B4 := btr B2 b3
  have hFo4 := hFo.below b3
  have h9 := hFo4.len
  have h1c := one_foC hFo4
  obtain ⟨w6, hw6, Z0, F6, b6⟩ := put_FU (W := w4) h9
  have HW6 := Lib.hid hw6
  have hFo6 := hFo4.below b6
  have B6 := btr B4 b6
  have hz1 : foZ.toArray = #[.int .i64 0, .int .i64 0, .int .i64 0, .int .i64 0, .int .i64 0, .int .i64 0, .slice none 0 0, .slice none 0 0, .slice none 0 0] := rfl
  rw [hz1] at Z0 HW6
  obtain ⟨gF, hgF⟩ : ∃ g, g = w4.heap.size := ⟨_, rfl⟩
  have HGF := Lib.hid hgF
  rw [← hgF] at F6
  obtain ⟨k, hk, hm⟩ := font_is hMF
  have hur := placeI_range by_ 4 (by omega)
  have HPX := Lib.hid fun W => Place_any by_ 4 W (by omega) (by omega)
  obtain ⟨u0, hu0⟩ : ∃ z, placeI by_ 4 = z := ⟨_, rfl⟩
  rw [hu0] at hur HPX
  obtain ⟨kq, hkq⟩ : ∃ q : Nat, u0 = (q : Int) := ⟨u0.toNat, by omega⟩
  subst hkq
  have hq4 : kq < 4 := by omega
  have hw1 : IntKind.i64.wrap (5898240 * (kq : Int)) = 5898240 * (kq : Int) := IntWalk.i64_in _ (by omega)
  have hcb := cq_bd kq
  have hdb := dq_bd kq
  have HSP := Lib.hid fun W => Spin_q kq hq4 W
  have hi1 := fun W => idx_c kq hq4 W
  have hi2 := fun W => idx_d kq hq4 W
  obtain ⟨cc, hcc⟩ : ∃ z, cq kq = z := ⟨_, rfl⟩
  obtain ⟨dd, hdd⟩ : ∃ z, dq kq = z := ⟨_, rfl⟩
  rw [hcc, hdd] at HSP
  rw [hcc] at hcb hi1
  rw [hdd] at hdb hi2
  have h8 : (bl s).length ≤ 8 := by rw [hbs]; exact textN_len ts
  have hlt : ∀ b ∈ bl s, b < 3 := by rw [hbs]; exact textN_lt ts
  obtain ⟨l, p1, E1, E2, E3, E4, hl48⟩ := turns_law hMF hk hm hcb hdb hlt h8
  have hz3 : s.size ≤ 1000000 := by rw [← bl_len]; omega
  obtain ⟨M, hM⟩ : ∃ M, l.map (rotS cc dd) = M := ⟨_, rfl⟩
  have hML : M.length = l.length := by rw [← hM, List.length_map]
  have HMM := Lib.hid hM
  rw [hM] at E2 E4
  obtain ⟨MT, hMT⟩ : ∃ m, wholeM cc dd (-dd) cc 0 0 = m := ⟨_, rfl⟩
  rw [hMT] at E2 HSP
  have HFo0 := Lib.hid fun V (hV : Below w6.heap.size w6 V) => hFo6.below hV
  have HO1 := Lib.hid fun V (hV : Below w6.heap.size w6 V) => outline_any F C oneM 0 0 s ((l, p1 * 65536, 0), 0) V hz3 (HFo0.out V hV) E1
  have HO2 := Lib.hid fun V (hV : Below w6.heap.size w6 V) => outline_any F C MT 0 0 s ((M, p1 * 65536, 0), 0) V hz3 (HFo0.out V hV) E2
  obtain ⟨nl, hnl⟩ : ∃ n, n = l.length := ⟨_, rfl⟩
  simp only [vm] at HO1 HO2 HSP
  rw [hML, ← hnl] at HO2
  rw [← hnl] at HO1
  have HPS := Lib.hid (pieces_of l 0 (mayB_from E3).1)
  have HNL := Lib.hid hnl
  have HE4 := Lib.hid E4
  have HF6 := Lib.hid fun V (hV : Below w6.heap.size w6 V) => F6.below hV
  have hn3 : nl ≤ 48 := by omega
  have HCB := Lib.hid hcb
  have HDB := Lib.hid hdb
  clear hu0 hcc hdd h8 hlt E1 E2 E3 E4 hz3 hM hML hnl hz1 hw6 hgF hbs hm hk F6 hFo6 hFo4 hFo hMF b1 b2 b3 b6 B2 B4 hur hl48 hMT HFo0 hcb hdb
  go_wp2_with (first
    | (refine wpList_store_rec rfl _ _ _ rfl w4.heap.size C _ rfl rfl 9 foT Z0 rfl h9 h1c ?_; rw [← HW6.out])
    | fail)
  refine (HPX.out _).mono ?_; rintro e w' ⟨rfl, rfl⟩
  rw [← HGF.out]
  clear Z0 HW6 h1c HGF HPX
  go_wp2_with fail
  refine (HSP.out _).mono ?_; rintro e w7 ⟨rfl, b7⟩
  obtain ⟨w8, hw8, N8, b8, Z8⟩ := put_newM (W := w7) MT
  have HW8 := Lib.hid hw8
  have GR := btr b7 b8
  obtain ⟨gM, hgM⟩ : ∃ g, g = w7.heap.size := ⟨_, rfl⟩
  have HGM := Lib.hid hgM
  rw [← hgM] at N8
  have HFB := Lib.hid fun V (hV : Below w8.heap.size w8 V) => HF6.out V (btr GR hV)
  have HMB := Lib.hid fun V (hV : Below w8.heap.size w8 V) => N8.below hV
  have HP1 := Lib.hid fun V (hV : Below w8.heap.size w8 V) => HO1.out V (btr GR hV)
  have HP2 := Lib.hid fun V (hV : Below w8.heap.size w8 V) => HO2.out V (btr GR hV)
  have G8 := Below.refl w8.heap.size w8
  clear hw8 b7 b8 hgM HSP hw1
  go_upto_region 6 with (first
    | (refine wpList_store_rec rfl _ _ _ rfl w7.heap.size (mtC MT) _ rfl rfl 6 matT2 Z8 rfl rfl (mtC_oneR _) ?_; rw [← HW8.out])
    | fail)
  rw [← HGM.out]
  clear Z8 HW8 HGM HO1 HO2 HF6 N8
  refine wp_region_ord (fun W => ∃ y : Grown w8, W = y.world) [] 13 (by kernel_rfl) (by kernel_rfl) ⟨⟨_, bdrew (Below.refl _ _)⟩, rfl⟩ ?_
  intro hS
  have HAo := Lib.hid fun (V : World) (hV : ∃ y : Grown w8, V = y.world) => (show BC V gF C by obtain ⟨y, rfl⟩ := hV; exact HFB.out _ (btr G8 y.below))
  have HMo := Lib.hid fun (V : World) (hV : ∃ y : Grown w8, V = y.world) => (show BC V gM (mtC MT) by obtain ⟨y, rfl⟩ := hV; exact HMB.out _ (btr G8 y.below))
  have HG := Lib.hid (fun (V : World) (hV : Below w8.heap.size w8 V) => (⟨⟨V, hV⟩, rfl⟩ : ∃ y : Grown w8, V = y.world))
  have HB := bdrew (Below.refl w8.heap.size w8)
  refine ord_take 0 rfl rfl (by kernel_rfl) (by kernel_rfl) (fun _ _ _ h => h) (yieldsIf_rec (by rfl) _ _ rfl _ rfl _ 9 foT HAo.out h9) hS ?_
  simp only [Act.put, List.setIfInBounds_toArray, List.set_cons_zero, List.set_cons_succ]
  refine ord_take (v := ?_) 2 rfl rfl (by kernel_rfl) (by kernel_rfl) (fun _ _ _ h => h) (Or.inl ⟨by rfl, ?_⟩) hS ?_
  rotate_left
  · rintro W ⟨y, rfl⟩
    go_simp
    (try with_reducible rfl)
  simp only [Act.put, List.setIfInBounds_toArray, List.set_cons_zero, List.set_cons_succ]
  clear hS
  refine ord_one 1 rfl (by kernel_rfl) rfl ?_
  intro K hK
  go_simp
  refine (matOne_any _).mono ?_; rintro e wn ⟨rfl, b8⟩
  have Hn := btr HB b8
  refine hK.out _ _ (HG.out _ Hn) ?_
  clear hK K HB b8
  have HB := Hn
  clear Hn
  try simp only
  have hS := HG.out _ HB
  clear hS
  refine ord_one 3 rfl (by kernel_rfl) rfl ?_
  intro K hK
  go_simp
  refine (HP1.out _ (btr G8 HB)).mono ?_; rintro e wn ⟨b8, A1, c1, rfl, hsa⟩
  have Hn := btr HB b8
  refine hK.out _ _ (HG.out _ Hn) ?_
  clear hK K HB b8
  have HB := Hn
  clear Hn
  try simp only
  have hS := HG.out _ HB
  refine ord_take (v := ?_) 4 rfl rfl (by kernel_rfl) (by kernel_rfl) (fun _ _ _ h => h) (Or.inl ⟨by rfl, ?_⟩) hS ?_
  rotate_left
  · rintro W ⟨y, rfl⟩
    go_simp
    (try with_reducible rfl)
  simp only [Act.put, List.setIfInBounds_toArray, List.set_cons_zero, List.set_cons_succ]
  refine ord_take (v := ?_) 5 rfl rfl (by kernel_rfl) (by kernel_rfl) (fun _ _ _ h => h) (Or.inl ⟨by rfl, ?_⟩) hS ?_
  rotate_left
  · rintro W ⟨y, rfl⟩
    go_simp
    (try with_reducible rfl)
  simp only [Act.put, List.setIfInBounds_toArray, List.set_cons_zero, List.set_cons_succ]
  refine ord_take (v := ?_) 6 rfl rfl (by kernel_rfl) (by kernel_rfl) (fun _ _ _ h => h) (Or.inl ⟨by rfl, ?_⟩) hS ?_
  rotate_left
  · rintro W ⟨y, rfl⟩
    go_simp
    (try with_reducible rfl)
  simp only [Act.put, List.setIfInBounds_toArray, List.set_cons_zero, List.set_cons_succ]
  refine ord_take (v := ?_) 7 rfl rfl (by kernel_rfl) (by kernel_rfl) (fun _ _ _ h => h) (Or.inl ⟨by rfl, ?_⟩) hS ?_
  rotate_left
  · rintro W ⟨y, rfl⟩
    go_simp
    (try with_reducible rfl)
  simp only [Act.put, List.setIfInBounds_toArray, List.set_cons_zero, List.set_cons_succ]
  refine ord_take (v := ?_) 8 rfl rfl (by kernel_rfl) (by kernel_rfl) (fun _ _ _ h => h) (Or.inl ⟨by rfl, ?_⟩) hS ?_
  rotate_left
  · rintro W ⟨y, rfl⟩
    go_simp
    (try with_reducible rfl)
  simp only [Act.put, List.setIfInBounds_toArray, List.set_cons_zero, List.set_cons_succ]
  refine ord_take (v := ?_) 9 rfl rfl (by kernel_rfl) (by kernel_rfl) (fun _ _ _ h => h) (Or.inl ⟨by rfl, ?_⟩) hS ?_
  rotate_left
  · rintro W ⟨y, rfl⟩
    go_simp
    (try with_reducible rfl)
  simp only [Act.put, List.setIfInBounds_toArray, List.set_cons_zero, List.set_cons_succ]
  refine ord_take (v := ?_) 10 rfl rfl (by kernel_rfl) (by kernel_rfl) (fun _ _ _ h => h) (Or.inl ⟨by rfl, ?_⟩) hS ?_
  rotate_left
  · rintro W ⟨y, rfl⟩
    go_simp
    (try with_reducible rfl)
  simp only [Act.put, List.setIfInBounds_toArray, List.set_cons_zero, List.set_cons_succ]
  refine ord_take (v := ?_) 11 rfl rfl (by kernel_rfl) (by kernel_rfl) (fun _ _ _ h => h) (Or.inl ⟨by rfl, ?_⟩) hS ?_
  rotate_left
  · rintro W ⟨y, rfl⟩
    go_simp
    (try with_reducible rfl)
  simp only [Act.put, List.setIfInBounds_toArray, List.set_cons_zero, List.set_cons_succ]
  refine ord_take (v := ?_) 12 rfl rfl (by kernel_rfl) (by kernel_rfl) (fun _ _ _ h => h) (Or.inl ⟨by rfl, ?_⟩) hS ?_
  rotate_left
  · rintro W ⟨y, rfl⟩
    go_simp
    (try with_reducible rfl)
  simp only [Act.put, List.setIfInBounds_toArray, List.set_cons_zero, List.set_cons_succ]
  clear hS HG HAo HMo
  refine ⟨by kernel_rfl, ?_⟩
  refine NoPanic.normal ?_
  obtain ⟨wa, hwa⟩ : ∃ W, W = wn := ⟨_, rfl⟩
  rw [← hwa] at HB hsa ⊢
  have Qa := HB
  clear hwa HB G8 HP1
  have hFa := HFB.out _ Qa
  have hMa := HMB.out _ Qa
  go_wp2_with (first
    | (refine wpList_load_rec rfl _ _ rfl gF rfl _ 9 foT hFa h9 ?_)
    | (refine wpList_load_rec rfl _ _ rfl gM rfl _ 6 matT2 hMa rfl ?_)
    | fail)
  refine (HP2.out _ Qa).mono ?_; rintro e wn ⟨HB, A2, c2, rfl, hsb⟩
  clear hFa hMa
  obtain ⟨wb, hwb⟩ : ∃ W, W = wn := ⟨_, rfl⟩
  rw [← hwb] at HB hsb ⊢
  have Qb := btr Qa HB
  replace hsa := hsa.below HB
  clear hwb HB Qa HP2
  go_upto_region 8 with (fail)
  refine wp_region_ord (fun W => ∃ y : Grown wb, W = y.world) [] 8 (by kernel_rfl) (by kernel_rfl) ⟨⟨_, bdrew (Below.refl _ _)⟩, rfl⟩ ?_
  intro hS
  have HAo := Lib.hid fun (V : World) (hV : ∃ y : Grown wb, V = y.world) => (show BC V gF C by obtain ⟨y, rfl⟩ := hV; exact HFB.out _ (btr Qb y.below))
  have HMo := Lib.hid fun (V : World) (hV : ∃ y : Grown wb, V = y.world) => (show BC V gM (mtC MT) by obtain ⟨y, rfl⟩ := hV; exact HMB.out _ (btr Qb y.below))
  have HG := Lib.hid (fun (V : World) (hV : Below wb.heap.size wb V) => (⟨⟨V, hV⟩, rfl⟩ : ∃ y : Grown wb, V = y.world))
  have HB := bdrew (Below.refl wb.heap.size wb)
  refine ord_take (v := ?_) 0 rfl rfl (by kernel_rfl) (by kernel_rfl) (fun _ _ _ h => h) (Or.inl ⟨by rfl, ?_⟩) hS ?_
  rotate_left
  · rintro W ⟨y, rfl⟩
    go_simp
    (try with_reducible rfl)
  simp only [Act.put, List.setIfInBounds_toArray, List.set_cons_zero, List.set_cons_succ]
  refine ord_take (v := ?_) 1 rfl rfl (by kernel_rfl) (by kernel_rfl) (fun _ _ _ h => h) (Or.inl ⟨by rfl, ?_⟩) hS ?_
  rotate_left
  · rintro W ⟨y, rfl⟩
    go_simp
    (try with_reducible rfl)
  simp only [Act.put, List.setIfInBounds_toArray, List.set_cons_zero, List.set_cons_succ]
  refine ord_take (v := ?_) 2 rfl rfl (by kernel_rfl) (by kernel_rfl) (fun _ _ _ h => h) (Or.inl ⟨by rfl, ?_⟩) hS ?_
  rotate_left
  · rintro W ⟨y, rfl⟩
    go_simp
    (try with_reducible rfl)
  simp only [Act.put, List.setIfInBounds_toArray, List.set_cons_zero, List.set_cons_succ]
  refine ord_take (v := ?_) 3 rfl rfl (by kernel_rfl) (by kernel_rfl) (fun _ _ _ h => h) (Or.inl ⟨by rfl, ?_⟩) hS ?_
  rotate_left
  · rintro W ⟨y, rfl⟩
    go_simp
    (try with_reducible rfl)
  simp only [Act.put, List.setIfInBounds_toArray, List.set_cons_zero, List.set_cons_succ]
  refine ord_take (v := ?_) 4 rfl rfl (by kernel_rfl) (by kernel_rfl) (fun _ _ _ h => h) (Or.inl ⟨by rfl, ?_⟩) hS ?_
  rotate_left
  · rintro W ⟨y, rfl⟩
    go_simp
    (try with_reducible rfl)
  simp only [Act.put, List.setIfInBounds_toArray, List.set_cons_zero, List.set_cons_succ]
  refine ord_take (v := ?_) 5 rfl rfl (by kernel_rfl) (by kernel_rfl) (fun _ _ _ h => h) (Or.inl ⟨by rfl, ?_⟩) hS ?_
  rotate_left
  · rintro W ⟨y, rfl⟩
    go_simp
    (try with_reducible rfl)
  simp only [Act.put, List.setIfInBounds_toArray, List.set_cons_zero, List.set_cons_succ]
  refine ord_take (v := ?_) 6 rfl rfl (by kernel_rfl) (by kernel_rfl) (fun _ _ _ h => h) (Or.inl ⟨by rfl, ?_⟩) hS ?_
  rotate_left
  · rintro W ⟨y, rfl⟩
    go_simp
    (try with_reducible rfl)
  simp only [Act.put, List.setIfInBounds_toArray, List.set_cons_zero, List.set_cons_succ]
  refine ord_take (v := ?_) 7 rfl rfl (by kernel_rfl) (by kernel_rfl) (fun _ _ _ h => h) (Or.inl ⟨by rfl, ?_⟩) hS ?_
  rotate_left
  · rintro W ⟨y, rfl⟩
    go_simp
    (try with_reducible rfl)
  simp only [Act.put, List.setIfInBounds_toArray, List.set_cons_zero, List.set_cons_succ]
  clear hS HG HAo HMo
  refine ⟨by kernel_rfl, ?_⟩
  refine NoPanic.normal ?_
  have Qc := btr Qb HB
  replace hsa := hsa.below HB
  replace hsb := hsb.below HB
  obtain ⟨wc, hwc⟩ : ∃ W, W = wb.drew := ⟨_, rfl⟩
  rw [← hwc] at HB Qc hsa hsb ⊢
  clear hwc HB Qb hi1 hi2 HFB HMB
  go_wp2_with fail
  go_loopw [21, 22] (fun out i wr => ∃ j A' c', j ≤ nl ∧ out = .slice A' j c' ∧ i = .int .i64 (j : Int) ∧ Below wc.heap.size wc wr ∧ wr.ownsRow wc.heap.size 42 5 (.slice A' j c') j (sgs ((l.take j).map (rotS cc dd)))) (fun _ i _ => nl - (intOf i).toNat)
  case atStart => exact ⟨0, none, 0, by omega, rfl, rfl, Below.refl _ _, own_nil⟩
  case round =>
    obtain ⟨wo, rfl⟩ : ∃ wo : World, wo = wr := ⟨_, rfl⟩
    obtain ⟨j, A5, c5, hj, rfl, rfl, hbr, hown⟩ := hrel
    have hsz := hbr.size
    by_cases hlt : j < nl
    · have hkl : j < l.length := by rw [← HNL.out]; exact hlt
      obtain ⟨b, off, rfl, hb, d0, d1, d2, d3, d4⟩ := (hsa.below hbr).sg j hlt hkl
      obtain ⟨q1, q2, q3, q4⟩ := pieceB_co (HPS.out l[j] (List.getElem_mem hkl))
      have htk := List.take_succ_eq_append_getElem (l := l) hkl
      obtain ⟨s', hs⟩ : ∃ s, s = l[j] := ⟨_, rfl⟩
      rw [← hs] at d0 d1 d2 d3 d4 q1 q2 q3 q4 htk
      have HTK := Lib.hid htk
      rw [co_iff] at q1 q2 q3 q4
      have hcb := HCB.out
      have hdb := HDB.out
      have m1 := mul_bdF (n := 1) (m := 8191) (x := cc) (y := s'.x) hcb q1 (by omega) (by omega)
      have m2 := mul_bdF (n := 1) (m := 8191) (x := cc) (y := s'.y) hcb q2 (by omega) (by omega)
      have m3 := mul_bdF (n := 1) (m := 8191) (x := cc) (y := s'.cx) hcb q3 (by omega) (by omega)
      have m4 := mul_bdF (n := 1) (m := 8191) (x := cc) (y := s'.cy) hcb q4 (by omega) (by omega)
      have m5 := mul_bdF (n := 1) (m := 8191) (x := dd) (y := s'.x) hdb q1 (by omega) (by omega)
      have m6 := mul_bdF (n := 1) (m := 8191) (x := dd) (y := s'.y) hdb q2 (by omega) (by omega)
      have m7 := mul_bdF (n := 1) (m := 8191) (x := dd) (y := s'.cx) hdb q3 (by omega) (by omega)
      have m8 := mul_bdF (n := 1) (m := 8191) (x := dd) (y := s'.cy) hdb q4 (by omega) (by omega)
      have f1 : IntKind.i64.wrap (cc * s'.x) = cc * s'.x := IntWalk.i64_in _ (by unfold Bd at *; omega)
      have f2 : IntKind.i64.wrap (cc * s'.y) = cc * s'.y := IntWalk.i64_in _ (by unfold Bd at *; omega)
      have f3 : IntKind.i64.wrap (cc * s'.cx) = cc * s'.cx := IntWalk.i64_in _ (by unfold Bd at *; omega)
      have f4 : IntKind.i64.wrap (cc * s'.cy) = cc * s'.cy := IntWalk.i64_in _ (by unfold Bd at *; omega)
      have f5 : IntKind.i64.wrap (dd * s'.x) = dd * s'.x := IntWalk.i64_in _ (by unfold Bd at *; omega)
      have f6 : IntKind.i64.wrap (dd * s'.y) = dd * s'.y := IntWalk.i64_in _ (by unfold Bd at *; omega)
      have f7 : IntKind.i64.wrap (dd * s'.cx) = dd * s'.cx := IntWalk.i64_in _ (by unfold Bd at *; omega)
      have f8 : IntKind.i64.wrap (dd * s'.cy) = dd * s'.cy := IntWalk.i64_in _ (by unfold Bd at *; omega)
      have g1 : IntKind.i64.wrap (cc * s'.x - dd * s'.y) = cc * s'.x - dd * s'.y := IntWalk.i64_in _ (by unfold Bd at *; omega)
      have g2 : IntKind.i64.wrap (dd * s'.x + cc * s'.y) = dd * s'.x + cc * s'.y := IntWalk.i64_in _ (by unfold Bd at *; omega)
      have g3 : IntKind.i64.wrap (cc * s'.cx - dd * s'.cy) = cc * s'.cx - dd * s'.cy := IntWalk.i64_in _ (by unfold Bd at *; omega)
      have g4 : IntKind.i64.wrap (dd * s'.cx + cc * s'.cy) = dd * s'.cx + cc * s'.cy := IntWalk.i64_in _ (by unfold Bd at *; omega)
      clear htk hs q1 q2 q3 q4 m1 m2 m3 m4 m5 m6 m7 m8 hcb hdb
      go_wp2_with (first
        | (at_builtin; refine wpList_app rfl _ _ 35 rfl wc.heap.size sgT0 rfl (own_below hown (bal (bal (Below.refl _ _) _) _)) (sgc (rotS cc dd s')) rfl (sl_newN _ (by simp) rfl) (oneCell_sgc _) (by omega) (bal (bal hbr _) _).size ?_; intro A3 c3 w3 hown3 hg3 hat3)
        | fail)
      go_roundw
      case rel => exact ⟨j + 1, A3, c3, by omega, rfl, by go_num, grown_below (bal (bal hbr _) _) hg3 (own_below hown (bal (bal (Below.refl _ _) _) _)), by rw [HTK.out, List.map_append, sgs_app, List.map_singleton, sgs_one]; exact hown3⟩
      case measure => (simp [intOf]) <;> omega
    · obtain rfl : j = nl := by omega
      have htake : l.take j = l := List.take_of_length_le (by have := HNL.out; omega)
      rw [htake, HMM.out] at hown
      have hsw := own_sl hown
      replace hsb := hsb.below hbr
      have Qd := btr Qc hbr
      clear hsa htake
      go_wp2_with fail
      refine (sameSg_any _ _ _ _ _ _ M _ (by omega) hsb hsw).mono ?_; rintro e w12 ⟨rfl, q7, rfl⟩
      have HMY := Lib.hid (path_May_any A5 j c5 M (wo.drewN q7) (by omega) (hsw.drewN _))
      rw [HE4.out] at HMY
      go_wp2_with fail
      refine HMY.out.mono ?_; rintro e wz ⟨rfl, bz⟩
      go_wp2_with fail
      go_ret
      exact ⟨rfl, btr (btr B6 GR) (btr (bdrewN Qd q7) bz)⟩
end Go.Proofs.Ytaphmonpdnbiiaa
