/- FontAlone: the walk. -/
import Derived.Test.YtgbppblofiogbaaFontUn
import Derived.Test.YtgbppblofiogbaaAllP
namespace Go.Proofs.Ytgbppblofiogbaa
open Go.RowKit Go.BigFrame

theorem cv_one (ch : Nat) (hc : ch < 3) (W : World) : (convert 58 9 (.slice (some ⟨W.heap.size, 0, none⟩) 1 1)).run Try.prog (W.alloc (.cells #[.int .u8 (ch : Int)] 5)) = .ok (.string (strOfNums ([ch].map Int.ofNat))) (W.alloc (.cells #[.int .u8 (ch : Int)] 5)) :=
  sl_str (bs := [ch]) (sl_new (w := W) (t := 5) (u8s [ch]) rfl rfl) (by omega)
theorem sl_far {w : World} {s n base g : Nat} {A : Option Addr} {xs : List Value} (h : Sl w s A n xs) (hf : FreshA base A n) (hg : g < base) (o : Nat) (v : Value) : Sl (w.setCell ⟨g, o, none⟩ v) s A n xs :=
  ⟨h.1, fun hn => by
    obtain ⟨b, off, e, hlt, hc⟩ := h.2 hn
    obtain ⟨b', off', e', hb⟩ := hf hn
    rw [e] at e'
    simp only [Option.some.injEq, Addr.mk.injEq, and_true] at e'
    obtain ⟨rfl, rfl⟩ := e'
    refine ⟨b, off, e, by simp [World.setCell]; exact hlt, fun j u hu => ?_⟩
    exact (World.cell?_of_block (a := ⟨b, off + j, none⟩) (setCell_heap w g o b v (by omega))).trans (hc j u hu)⟩
theorem fo_c8 {w : World} {F : Fo} {C : List Value} (h : FoAt w F C) : ∃ v, C[8]? = some v := by
  obtain ⟨ok, A, B, E, c, d, e, rfl, h1, h2, h3⟩ := h; exact ⟨_, rfl⟩
theorem fo_nokern {w : World} {F : Fo} {C : List Value} (h : FoAt w F C) : FoAt w { F with kern := [] } (C.set 8 (.slice none 0 0)) := by
  obtain ⟨ok, A, B, E, c, d, e, rfl, h1, h2, h3⟩ := h
  exact ⟨⟨ok.nl, ok.ll, by simp, ok.ns, ok.ls⟩, A, B, none, c, d, 0, rfl, h1, h2, Sl.nil_⟩
set_option maxRecDepth 100000 in
set_option maxHeartbeats 8000000 in
theorem FontAlone_any (A : Option Addr) (n c : Nat) (cb x y : Int) (A' : Option Addr) (n' c' : Nat) (w : World) (h : InA w A n) (hnc : n ≤ c) (hcm : c ≤ 9223372036854775807) (hcb : 0 ≤ cb ∧ cb ≤ 255)
    (h' : InA w A' n') (hnc' : n' ≤ c') (hcm' : c' ≤ 9223372036854775807) :
    Calls Try.prog 6 #[.slice A n c, .int .u8 cb, .int .i64 x, .int .i64 y, .slice A' n' c'] w fun e w' => e = .returned (.bool true) ∧ Below w.heap.size w w' := by
  obtain ⟨zs, hz⟩ := h.sl
  obtain ⟨ts, ht⟩ := h'.sl
  have HMD := Lib.hid fun W (hb : Below w.heap.size w W) => Made41_any A n c zs W hnc hcm (hz.below hb)
  have HUN := Lib.hid fun W (hb : Below w.heap.size w W) => Unit_any A' n' c' ts W hnc' hcm' (ht.below hb)
  clear h h' hnc hcm hnc' hcm' hz ht
  obtain ⟨ch, hch⟩ : ∃ z : Nat, z = (cb % 3).toNat := ⟨_, rfl⟩
  have hc3 : ch < 3 := by omega
  have htm : cb.tmod 3 = (ch : Int) := by rw [hch, Int.tmod_eq_emod_of_nonneg hcb.1]; omega
  clear hch
  go_enter Try.func6, Try.ntmps6
  go_wp2_with fail
  refine (known41_any _).mono ?_; rintro e w1 ⟨rfl, b1⟩
  go_wp2_with fail
  refine (HMD.out _ b1).mono ?_; rintro e w2 ⟨F, C, rfl, hFo, hMF, b2⟩
  have B2 := btr b1 b2
  go_wp2_with fail
  refine (HUN.out _ B2).mono ?_; rintro e w4 ⟨ma, mb, mc, md, rfl, ⟨y1, y2, y3, y4⟩, b3⟩
  have B4 := btr B2 b3
  have hFo4 := hFo.below b3
  have h9 := hFo4.len
  have h1c := one_foC hFo4
  obtain ⟨MM, hMM⟩ : ∃ M, M = wholeM ma mb mc md 0 0 := ⟨_, rfl⟩
  have hmm : mtB MM = true := by rw [hMM]; exact whole_may (by unfold Bd at *; omega) (by unfold Bd at *; omega) (by unfold Bd at *; omega) (by unfold Bd at *; omega) (by unfold Bd; omega) (by unfold Bd; omega)
  rw [← hMM]
  clear hMM y1 y2 y3 y4
  obtain ⟨w5, w6, hw5, hw6, Z0, Z1, F6, M6, b6⟩ := put_FM (W := w4) MM h9
  have HW5 := Lib.hid hw5
  have HW6 := Lib.hid hw6
  have B6 := btr B4 b6
  have hvm : mtv MM = .agg (mtC MM).toArray := rfl
  rw [hvm]
  have hz1 : foZ.toArray = #[.int .i64 0, .int .i64 0, .int .i64 0, .int .i64 0, .int .i64 0, .int .i64 0, .slice none 0 0, .slice none 0 0, .slice none 0 0] := rfl
  have hz2 : (mtC zeroM).toArray = #[.int .i64 0, .int .i64 0, .int .i64 0, .int .i64 0, .int .i64 0, .int .i64 0] := rfl
  rw [hz1, hz2] at Z0 HW5
  clear hw5 hw6 hvm hz1 hz2 b1 b2 b3 hFo B2
  go_upto_region 4 with (first
    | (refine wpList_store_rec rfl _ _ _ rfl w4.heap.size C _ rfl rfl 9 foT Z0 rfl h9 h1c ?_; rw [← HW5.out])
    | (refine wpList_store_rec rfl _ _ _ rfl (w4.heap.size + 1) (mtC MM) _ rfl rfl 6 matT2 Z1 rfl rfl (mtC_oneR _) ?_; rw [← HW6.out])
    | fail)
  obtain ⟨gM, hgM⟩ : ∃ g, g = w4.heap.size + 1 := ⟨_, rfl⟩
  rw [← hgM] at M6 ⊢
  obtain ⟨gF, hgF⟩ : ∃ g, g = w4.heap.size := ⟨_, rfl⟩
  rw [← hgF] at F6 ⊢
  have HGF := Lib.hid hgF
  have HGM : Hid (gM ≠ gF) := Lib.hid (by omega)
  have HGL : Hid (gF < w6.heap.size) := Lib.hid F6.lt
  clear hgM hgF Z0 Z1 HW5 HW6 h1c
  obtain ⟨k, hk, hm⟩ := font_is hMF
  obtain ⟨p, hp0, hp1, hp2⟩ := small_bd x
  obtain ⟨q, hq0, hq1, hq2⟩ := small_bd y
  have HSX := Lib.hid fun W => small_any x W
  have HSY := Lib.hid fun W => small_any y W
  rw [hp0] at HSX
  rw [hq0] at HSY
  obtain ⟨L, wd, hL, hw0, hw24, hr⟩ := hMF.run hc3
  obtain ⟨⟨P, pe⟩, hP⟩ : ∃ r, placeF F MM (p * 65536) (q * 65536) L = r := ⟨_, rfl⟩
  obtain ⟨E1, E2, E3, E4, hPl⟩ := alone_law hMF hk hm hmm (p := p) (q := q) (by unfold Bd; omega) (by unfold Bd; omega) hc3 hr hL ⟨hw0, hw24⟩ hP
  obtain ⟨xR, yR, hR1, hR2⟩ : ∃ xR yR : Int, (if pe ≠ 0 then (([], 0, 0), pe) else ((P, (p + k * wd) * 65536, q * 65536), 0) : (List Sg × Int × Int) × Int) = ((P, xR, yR), pe) ∧ ((pe ≠ 0 → xR = 0 ∧ yR = 0) ∧ (pe = 0 → xR = (p + k * wd) * 65536 ∧ yR = q * 65536)) := by
    by_cases hpe : pe = 0
    · subst hpe; exact ⟨_, _, by simp, fun h => absurd rfl h, fun _ => ⟨rfl, rfl⟩⟩
    · exact ⟨0, 0, by rw [if_pos hpe, E4 hpe], fun _ => ⟨rfl, rfl⟩, fun h => absurd h hpe⟩
  rw [hR1] at E2
  have hsb : bl (strOfNums ([ch].map Int.ofNat)) = [ch] := bl_nat (fun b hb => by simp only [List.mem_singleton] at hb; omega)
  obtain ⟨s, hs⟩ : ∃ s, strOfNums ([ch].map Int.ofNat) = s := ⟨_, rfl⟩
  have hcv1 := fun W => cv_one ch hc3 W
  rw [hs] at hsb hcv1
  have hss : s.size ≤ 1000000 := by rw [← bl_len, hsb]; simp
  have E2' : outF F MM (p * 65536) (q * 65536) (bl s) = ((P, xR, yR), pe) := by rw [hsb]; exact E2
  obtain ⟨F', hF'⟩ : ∃ F' : Fo, F' = { F with kern := [] } := ⟨_, rfl⟩
  have hMF' : MadeF F' := by rw [hF']; exact ⟨hMF.m, hMF.names, hMF.lets, by simp, fun k hk => by simp at hk⟩
  have E5 : outF F' MM (p * 65536) (q * 65536) (bl s) = ((P, xR, yR), pe) := by
    have hP' : placeF F' MM (p * 65536) (q * 65536) L = (P, pe) := by rw [hF']; exact hP
    have hr' : runF F' ch = ((L, wd), 0) := by rw [hF']; exact hr
    obtain ⟨_, e2, _⟩ := alone_law hMF' hk (by rw [hF']; exact hm) hmm (p := p) (q := q) (by unfold Bd; omega) (by unfold Bd; omega) hc3 hr' hL ⟨hw0, hw24⟩ hP'
    rw [hsb, e2, hR1]
  have hK0 : kernF F' ch ch = 0 := by rw [hF']; unfold kernF; split <;> rfl
  have hwide := wideF_made hMF hr
  have hFo6 := hFo4.below b6
  have hFk := fo_nokern hFo4
  rw [← hF'] at hFk
  have HFB := Lib.hid fun V (hV : Below w6.heap.size w6 V) => F6.below hV
  have HMB := Lib.hid fun V (hV : Below w6.heap.size w6 V) => M6.below hV
  have HFo := Lib.hid fun V (hV : Below w6.heap.size w6 V) => hFo6.below hV
  have HFk := Lib.hid fun V (hV : Below w4.heap.size w4 V) => hFk.below hV
  have HB46 := Lib.hid b6
  have HO1 := Lib.hid fun V (hV : Below w6.heap.size w6 V) => outline_fresh F C MM (p * 65536) (q * 65536) s ((P, xR, yR), pe) V hss (HFo.out V hV) E2'
  have HO2 := Lib.hid fun V (hV : Below w4.heap.size w4 V) => outline_any F' (C.set 8 (.slice none 0 0)) MM (p * 65536) (q * 65536) s ((P, xR, yR), pe) V hss (HFk.out V hV) E5
  have HPA := Lib.hid fun V (hV : Below w6.heap.size w6 V) => fontPath_any F C MM (p * 65536) (q * 65536) ch (P, pe) V (by omega) (HFo.out V hV) E1
  have HWD := Lib.hid fun V (hV : Below w6.heap.size w6 V) => fontWide_any F C ch V (by omega) (HFo.out V hV)
  rw [hwide] at HWD
  have HAI := Lib.hid fun V => matAim_any F.m (wd * 65536) 0 V
  rw [E3] at HAI
  unfold vP at HAI
  have HKN := Lib.hid fun V (hV : Below w4.heap.size w4 V) => Kern_any F' (C.set 8 (.slice none 0 0)) ch ch V (by omega) (by omega) (HFk.out V hV)
  rw [hMF'.open, hK0] at HKN
  obtain ⟨nP, hnP⟩ : ∃ n, n = P.length := ⟨_, rfl⟩
  simp only [vm, if_true] at HO1 HO2 HPA HWD HAI HKN
  rw [← hnP] at HO1 HO2 HPA
  have hnP6 : nP ≤ 1000000 := by omega
  have h9' : (C.set 8 (.slice none 0 0)).length = 9 := by rw [List.length_set]; exact h9
  have HR2 := Lib.hid hR2
  have HWB := Lib.hid (show (0 ≤ wd ∧ wd ≤ 24) ∧ (1 ≤ k ∧ k ≤ 3) ∧ (-20 ≤ p ∧ p ≤ 39) from ⟨⟨hw0, hw24⟩, hk, hp1, hp2⟩)
  have HQB := Lib.hid (show -20 ≤ q ∧ q ≤ 39 from ⟨hq1, hq2⟩)
  have hww : IntKind.i64.wrap (wd * 65536) = wd * 65536 := IntWalk.i64_in _ (by omega)
  have HFC := Lib.hid (fo_mat hFo6)
  have GR := Below.refl w6.heap.size w6
  clear hp0 hp1 hp2 hq0 hq1 hq2 hL hw0 hw24 hr hP E1 E2 E2' E3 E4 E5 hPl hR1 hR2 hsb hs hss hK0 hMF' hwide hFo6 hFk hnP hm hk F6 M6 hFo4 hMF hF' b6 HMD HUN hmm
  go_upto_region 5 with (fail)
  refine wp_region_ord (fun W => ∃ y : Grown w6, W = y.world) [] 19 (by kernel_rfl) (by kernel_rfl) ⟨⟨_, bdrew (Below.refl _ _)⟩, rfl⟩ ?_
  intro hS
  have HAo := Lib.hid fun (V : World) (hV : ∃ y : Grown w6, V = y.world) => (show BC V gF C by obtain ⟨y, rfl⟩ := hV; exact HFB.out _ (btr GR y.below))
  have HMo := Lib.hid fun (V : World) (hV : ∃ y : Grown w6, V = y.world) => (show BC V gM (mtC MM) by obtain ⟨y, rfl⟩ := hV; exact HMB.out _ (btr GR y.below))
  have HG := Lib.hid (fun (V : World) (hV : Below w6.heap.size w6 V) => (⟨⟨V, hV⟩, rfl⟩ : ∃ y : Grown w6, V = y.world))
  have HB := bdrew (Below.refl w6.heap.size w6)
  refine ord_take 0 rfl rfl (by kernel_rfl) (by kernel_rfl) (fun _ _ _ h => h) (yieldsIf_rec (by rfl) _ _ rfl _ rfl _ 9 foT HAo.out h9) hS ?_
  simp only [Act.put, List.setIfInBounds_toArray, List.set_cons_zero, List.set_cons_succ]
  refine ord_take 1 rfl rfl (by kernel_rfl) (by kernel_rfl) (fun _ _ _ h => h) (yieldsIf_rec (by rfl) _ _ rfl _ rfl _ 6 matT2 HMo.out rfl) hS ?_
  simp only [Act.put, List.setIfInBounds_toArray, List.set_cons_zero, List.set_cons_succ]
  refine ord_take (v := ?_) 2 rfl rfl (by kernel_rfl) (by kernel_rfl) (fun _ _ _ h => h) (Or.inl ⟨by rfl, ?_⟩) hS ?_
  rotate_left
  · rintro W ⟨y, rfl⟩
    go_simp
    (try with_reducible rfl)
  simp only [Act.put, List.setIfInBounds_toArray, List.set_cons_zero, List.set_cons_succ]
  refine ord_take (v := ?_) 4 rfl rfl (by kernel_rfl) (by kernel_rfl) (fun _ _ _ h => h) (Or.inl ⟨by rfl, ?_⟩) hS ?_
  rotate_left
  · rintro W ⟨y, rfl⟩
    go_simp
    (try with_reducible rfl)
  simp only [Act.put, List.setIfInBounds_toArray, List.set_cons_zero, List.set_cons_succ]
  refine ord_take (v := ?_) 6 rfl rfl (by kernel_rfl) (by kernel_rfl) (fun _ _ _ h => h) (Or.inl ⟨by rfl, ?_⟩) hS ?_
  rotate_left
  · rintro W ⟨y, rfl⟩
    go_simp
    (try with_reducible rfl)
  simp only [Act.put, List.setIfInBounds_toArray, List.set_cons_zero, List.set_cons_succ]
  have hS0 := hS
  have hSa := HG.out _ (bal (bdrew (Below.refl w6.heap.size w6)) (.cells #[.int .u8 (ch : Int)] 5))
  have hcv : (convert 58 9 (.slice (some ⟨w6.heap.size, 0, none⟩) 1 1)).run Try.prog ((w6.alloc (.cells #[.int .u8 (ch : Int)] 5)).drew) = .ok (.string s) ((w6.alloc (.cells #[.int .u8 (ch : Int)] 5)).drew) := hcv1 w6.drew
  clear hS
  refine cutT (α := ?al1) ?main1 ?leaf1
  case main1 =>
    intro HL
    refine ord_two 3 7 rfl rfl (by kernel_rfl) rfl rfl ?_ ?_
    · intro K hK
      go_simp
      refine (HSX.out _).mono ?_; rintro e w' ⟨rfl, rfl⟩
      refine hK.out _ _ hS0 ?_
      clear hK K
      try simp only
      refine ord_two 5 7 rfl rfl (by kernel_rfl) rfl rfl ?_ ?_
      · intro K hK
        go_simp
        refine (HSY.out _).mono ?_; rintro e w' ⟨rfl, rfl⟩
        refine hK.out _ _ hS0 ?_
        clear hK K
        try simp only
        refine ord_one 7 rfl (by kernel_rfl) rfl ?_
        intro K hK
        go_simp
        refine hK.out _ _ hSa ?_
        clear hK K
        try simp only
        refine ord_one 8 rfl (by kernel_rfl) rfl ?_
        intro K hK
        go_simp
        refine hK.out _ _ hSa ?_
        clear hK K
        try simp only
        exact HL
      · intro K hK
        go_simp
        refine hK.out _ _ hSa ?_
        clear hK K
        try simp only
        refine ord_two 5 8 rfl rfl (by kernel_rfl) rfl rfl ?_ ?_
        · intro K hK
          go_simp
          refine (HSY.out _).mono ?_; rintro e w' ⟨rfl, rfl⟩
          refine hK.out _ _ hSa ?_
          clear hK K
          try simp only
          refine ord_one 8 rfl (by kernel_rfl) rfl ?_
          intro K hK
          go_simp
          refine hK.out _ _ hSa ?_
          clear hK K
          try simp only
          exact ord_eq (by kernel_rfl) HL
        · intro K hK
          go_simp
          refine hK.out _ _ hSa ?_
          clear hK K
          try simp only
          refine ord_one 5 rfl (by kernel_rfl) rfl ?_
          intro K hK
          go_simp
          refine (HSY.out _).mono ?_; rintro e w' ⟨rfl, rfl⟩
          refine hK.out _ _ hSa ?_
          clear hK K
          try simp only
          exact ord_eq (by kernel_rfl) HL
    · intro K hK
      go_simp
      refine hK.out _ _ hSa ?_
      clear hK K
      try simp only
      refine ord_two 3 8 rfl rfl (by kernel_rfl) rfl rfl ?_ ?_
      · intro K hK
        go_simp
        refine (HSX.out _).mono ?_; rintro e w' ⟨rfl, rfl⟩
        refine hK.out _ _ hSa ?_
        clear hK K
        try simp only
        refine ord_two 5 8 rfl rfl (by kernel_rfl) rfl rfl ?_ ?_
        · intro K hK
          go_simp
          refine (HSY.out _).mono ?_; rintro e w' ⟨rfl, rfl⟩
          refine hK.out _ _ hSa ?_
          clear hK K
          try simp only
          refine ord_one 8 rfl (by kernel_rfl) rfl ?_
          intro K hK
          go_simp
          refine hK.out _ _ hSa ?_
          clear hK K
          try simp only
          exact ord_eq (by kernel_rfl) HL
        · intro K hK
          go_simp
          refine hK.out _ _ hSa ?_
          clear hK K
          try simp only
          refine ord_one 5 rfl (by kernel_rfl) rfl ?_
          intro K hK
          go_simp
          refine (HSY.out _).mono ?_; rintro e w' ⟨rfl, rfl⟩
          refine hK.out _ _ hSa ?_
          clear hK K
          try simp only
          exact ord_eq (by kernel_rfl) HL
      · intro K hK
        go_simp
        refine hK.out _ _ hSa ?_
        clear hK K
        try simp only
        refine ord_one 3 rfl (by kernel_rfl) rfl ?_
        intro K hK
        go_simp
        refine (HSX.out _).mono ?_; rintro e w' ⟨rfl, rfl⟩
        refine hK.out _ _ hSa ?_
        clear hK K
        try simp only
        refine ord_one 5 rfl (by kernel_rfl) rfl ?_
        intro K hK
        go_simp
        refine (HSY.out _).mono ?_; rintro e w' ⟨rfl, rfl⟩
        refine hK.out _ _ hSa ?_
        clear hK K
        try simp only
        exact ord_eq (by kernel_rfl) HL
  replace HB := bal (bdrew (Below.refl w6.heap.size w6)) (.cells #[.int .u8 (ch : Int)] 5)
  have hS := hSa
  clear hS0 hSa hcv
  clear hS
  refine ord_one 9 rfl (by kernel_rfl) rfl ?_
  intro K hK
  go_simp
  refine (HO1.out _ (btr GR HB)).mono ?_; rintro e wn ⟨b8, A1, c1, rfl, ⟨hsa, hfa⟩⟩
  have Hn := btr HB b8
  refine hK.out _ _ (HG.out _ Hn) ?_
  clear hK K HB b8
  have HB := Hn
  clear Hn
  try simp only
  have hS := HG.out _ HB
  refine ord_take (v := ?_) 10 rfl rfl (by kernel_rfl) (by kernel_rfl) (fun _ _ _ h => h) (Or.inl ⟨by rfl, ?_⟩) hS ?_
  rotate_left
  · rintro W ⟨y, rfl⟩
    go_simp
    (try with_reducible rfl)
  simp only [Act.put, List.setIfInBounds_toArray, List.set_cons_zero, List.set_cons_succ]
  refine ord_take (v := ?_) 11 rfl rfl (by kernel_rfl) (by kernel_rfl) (fun _ _ _ h => h) (Or.inl ⟨by rfl, ?_⟩) hS ?_
  rotate_left
  · rintro W ⟨y, rfl⟩
    go_simp
    (try with_reducible rfl)
  simp only [Act.put, List.setIfInBounds_toArray, List.set_cons_zero, List.set_cons_succ]
  refine ord_take (v := ?_) 12 rfl rfl (by kernel_rfl) (by kernel_rfl) (fun _ _ _ h => h) (Or.inl ⟨by rfl, ?_⟩) hS ?_
  rotate_left
  · rintro W ⟨y, rfl⟩
    go_simp
    (try with_reducible rfl)
  simp only [Act.put, List.setIfInBounds_toArray, List.set_cons_zero, List.set_cons_succ]
  refine ord_take (v := ?_) 13 rfl rfl (by kernel_rfl) (by kernel_rfl) (fun _ _ _ h => h) (Or.inl ⟨by rfl, ?_⟩) hS ?_
  rotate_left
  · rintro W ⟨y, rfl⟩
    go_simp
    (try with_reducible rfl)
  simp only [Act.put, List.setIfInBounds_toArray, List.set_cons_zero, List.set_cons_succ]
  refine ord_take (v := ?_) 14 rfl rfl (by kernel_rfl) (by kernel_rfl) (fun _ _ _ h => h) (Or.inl ⟨by rfl, ?_⟩) hS ?_
  rotate_left
  · rintro W ⟨y, rfl⟩
    go_simp
    (try with_reducible rfl)
  simp only [Act.put, List.setIfInBounds_toArray, List.set_cons_zero, List.set_cons_succ]
  refine ord_take (v := ?_) 15 rfl rfl (by kernel_rfl) (by kernel_rfl) (fun _ _ _ h => h) (Or.inl ⟨by rfl, ?_⟩) hS ?_
  rotate_left
  · rintro W ⟨y, rfl⟩
    go_simp
    (try with_reducible rfl)
  simp only [Act.put, List.setIfInBounds_toArray, List.set_cons_zero, List.set_cons_succ]
  refine ord_take (v := ?_) 16 rfl rfl (by kernel_rfl) (by kernel_rfl) (fun _ _ _ h => h) (Or.inl ⟨by rfl, ?_⟩) hS ?_
  rotate_left
  · rintro W ⟨y, rfl⟩
    go_simp
    (try with_reducible rfl)
  simp only [Act.put, List.setIfInBounds_toArray, List.set_cons_zero, List.set_cons_succ]
  refine ord_take (v := ?_) 17 rfl rfl (by kernel_rfl) (by kernel_rfl) (fun _ _ _ h => h) (Or.inl ⟨by rfl, ?_⟩) hS ?_
  rotate_left
  · rintro W ⟨y, rfl⟩
    go_simp
    (try with_reducible rfl)
  simp only [Act.put, List.setIfInBounds_toArray, List.set_cons_zero, List.set_cons_succ]
  refine ord_take (v := ?_) 18 rfl rfl (by kernel_rfl) (by kernel_rfl) (fun _ _ _ h => h) (Or.inl ⟨by rfl, ?_⟩) hS ?_
  rotate_left
  · rintro W ⟨y, rfl⟩
    go_simp
    (try with_reducible rfl)
  simp only [Act.put, List.setIfInBounds_toArray, List.set_cons_zero, List.set_cons_succ]
  clear hS HG HAo HMo
  refine ⟨by kernel_rfl, ?_⟩
  refine NoPanic.normal ?_
  have hfr : FreshA w6.heap.size A1 nP := fun h0 => by
    obtain ⟨b, off, e, hb⟩ := hfa h0
    exact ⟨b, off, e, Nat.le_trans (by simp) hb⟩
  clear hfa
  obtain ⟨wa, hwa⟩ : ∃ W, W = wn := ⟨_, rfl⟩
  rw [← hwa] at HB hsa ⊢
  have Qa := HB
  clear hwa HB GR HO1
  go_upto_region 6 with (fail)
  refine wp_region_ord (fun W => ∃ y : Grown wa, W = y.world) [] 13 (by kernel_rfl) (by kernel_rfl) ⟨⟨_, bdrew (Below.refl _ _)⟩, rfl⟩ ?_
  intro hS
  have HAo := Lib.hid fun (V : World) (hV : ∃ y : Grown wa, V = y.world) => (show BC V gF C by obtain ⟨y, rfl⟩ := hV; exact HFB.out _ (btr Qa y.below))
  have HMo := Lib.hid fun (V : World) (hV : ∃ y : Grown wa, V = y.world) => (show BC V gM (mtC MM) by obtain ⟨y, rfl⟩ := hV; exact HMB.out _ (btr Qa y.below))
  have HG := Lib.hid (fun (V : World) (hV : Below wa.heap.size wa V) => (⟨⟨V, hV⟩, rfl⟩ : ∃ y : Grown wa, V = y.world))
  have HB := bdrew (Below.refl wa.heap.size wa)
  refine ord_take 0 rfl rfl (by kernel_rfl) (by kernel_rfl) (fun _ _ _ h => h) (yieldsIf_rec (by rfl) _ _ rfl _ rfl _ 9 foT HAo.out h9) hS ?_
  simp only [Act.put, List.setIfInBounds_toArray, List.set_cons_zero, List.set_cons_succ]
  refine ord_take 1 rfl rfl (by kernel_rfl) (by kernel_rfl) (fun _ _ _ h => h) (yieldsIf_rec (by rfl) _ _ rfl _ rfl _ 6 matT2 HMo.out rfl) hS ?_
  simp only [Act.put, List.setIfInBounds_toArray, List.set_cons_zero, List.set_cons_succ]
  refine ord_take (v := ?_) 2 rfl rfl (by kernel_rfl) (by kernel_rfl) (fun _ _ _ h => h) (Or.inl ⟨by rfl, ?_⟩) hS ?_
  rotate_left
  · rintro W ⟨y, rfl⟩
    go_simp
    (try with_reducible rfl)
  simp only [Act.put, List.setIfInBounds_toArray, List.set_cons_zero, List.set_cons_succ]
  refine ord_take (v := ?_) 4 rfl rfl (by kernel_rfl) (by kernel_rfl) (fun _ _ _ h => h) (Or.inl ⟨by rfl, ?_⟩) hS ?_
  rotate_left
  · rintro W ⟨y, rfl⟩
    go_simp
    (try with_reducible rfl)
  simp only [Act.put, List.setIfInBounds_toArray, List.set_cons_zero, List.set_cons_succ]
  refine ord_take (v := ?_) 6 rfl rfl (by kernel_rfl) (by kernel_rfl) (fun _ _ _ h => h) (Or.inl ⟨by rfl, ?_⟩) hS ?_
  rotate_left
  · rintro W ⟨y, rfl⟩
    go_simp
    (try with_reducible rfl)
  simp only [Act.put, List.setIfInBounds_toArray, List.set_cons_zero, List.set_cons_succ]
  clear hS
  refine ord_one 3 rfl (by kernel_rfl) rfl ?_
  intro K hK
  go_simp
  refine (HSX.out _).mono ?_; rintro e w' ⟨rfl, rfl⟩
  refine hK.out _ _ (HG.out _ HB) ?_
  clear hK K
  try simp only
  have hS := HG.out _ HB
  clear hS
  refine ord_one 5 rfl (by kernel_rfl) rfl ?_
  intro K hK
  go_simp
  refine (HSY.out _).mono ?_; rintro e w' ⟨rfl, rfl⟩
  refine hK.out _ _ (HG.out _ HB) ?_
  clear hK K
  try simp only
  have hS := HG.out _ HB
  clear hS
  refine ord_one 7 rfl (by kernel_rfl) rfl ?_
  intro K hK
  go_simp
  refine (HPA.out _ (btr Qa HB)).mono ?_; rintro e wn ⟨b8, A2, c2, rfl, hsb⟩
  have Hn := btr HB b8
  refine hK.out _ _ (HG.out _ Hn) ?_
  clear hK K HB b8
  have HB := Hn
  clear Hn
  try simp only
  have hS := HG.out _ HB
  refine ord_take (v := ?_) 8 rfl rfl (by kernel_rfl) (by kernel_rfl) (fun _ _ _ h => h) (Or.inl ⟨by rfl, ?_⟩) hS ?_
  rotate_left
  · rintro W ⟨y, rfl⟩
    go_simp
    (try with_reducible rfl)
  simp only [Act.put, List.setIfInBounds_toArray, List.set_cons_zero, List.set_cons_succ]
  refine ord_take (v := ?_) 9 rfl rfl (by kernel_rfl) (by kernel_rfl) (fun _ _ _ h => h) (Or.inl ⟨by rfl, ?_⟩) hS ?_
  rotate_left
  · rintro W ⟨y, rfl⟩
    go_simp
    (try with_reducible rfl)
  simp only [Act.put, List.setIfInBounds_toArray, List.set_cons_zero, List.set_cons_succ]
  refine ord_take (v := ?_) 10 rfl rfl (by kernel_rfl) (by kernel_rfl) (fun _ _ _ h => h) (Or.inl ⟨by rfl, ?_⟩) hS ?_
  rotate_left
  · rintro W ⟨y, rfl⟩
    go_simp
    (try with_reducible rfl)
  simp only [Act.put, List.setIfInBounds_toArray, List.set_cons_zero, List.set_cons_succ]
  refine ord_take (v := ?_) 11 rfl rfl (by kernel_rfl) (by kernel_rfl) (fun _ _ _ h => h) (Or.inl ⟨by rfl, ?_⟩) hS ?_
  rotate_left
  · rintro W ⟨y, rfl⟩
    go_simp
    (try with_reducible rfl)
  simp only [Act.put, List.setIfInBounds_toArray, List.set_cons_zero, List.set_cons_succ]
  refine ord_take (v := ?_) 12 rfl rfl (by kernel_rfl) (by kernel_rfl) (fun _ _ _ h => h) (Or.inl ⟨by rfl, ?_⟩) hS ?_
  rotate_left
  · rintro W ⟨y, rfl⟩
    go_simp
    (try with_reducible rfl)
  simp only [Act.put, List.setIfInBounds_toArray, List.set_cons_zero, List.set_cons_succ]
  clear hS HG HAo HMo
  refine ⟨by kernel_rfl, ?_⟩
  refine NoPanic.normal ?_
  obtain ⟨wb, hwb⟩ : ∃ W, W = wn := ⟨_, rfl⟩
  rw [← hwb] at HB hsb ⊢
  have Qb := btr Qa HB
  replace hsa := hsa.below HB
  clear hwb HB Qa HPA
  have hFb := HFB.out _ Qb
  go_wp2_with (first
    | (refine wpList_load_rec rfl _ _ rfl gF rfl _ 9 foT hFb h9 ?_)
    | fail)
  refine (HWD.out _ Qb).mono ?_; rintro e wc ⟨rfl, b9⟩
  replace hsa := hsa.below b9
  replace hsb := hsb.below b9
  have Qc := btr Qb b9
  clear hFb b9 Qb HWD
  go_wp2_with fail
  refine (sameSg_any _ _ _ _ _ _ P _ hnP6 hsa hsb).mono ?_; rintro e w12 ⟨rfl, q7, rfl⟩
  by_cases hpe : pe = 0
  · obtain ⟨hx, hy⟩ := HR2.out.2 hpe
    subst hpe; subst hx; subst hy
    have Qd := bdrewN Qc q7
    obtain ⟨N0, L0, K0, hCe⟩ := HFC.out
    have hFm := HFB.out _ Qd
    have hFm2 := hFm
    rw [hCe] at hFm2
    replace hsa := hsa.drewN q7
    obtain ⟨we, hwe⟩ : ∃ W, W = wc.drewN q7 := ⟨_, rfl⟩
    rw [← hwe] at hFm2 hsa Qd ⊢
    clear hwe hFm hCe hsb Qc
    go_wp2_with (first
      | (refine wpList_load_foM rfl _ _ rfl gF rfl F.m _ _ _ matT2 hFm2 ?_)
      | fail)
    refine (HAI.out _).mono ?_; rintro e wf ⟨rfl, b10⟩
    have Qf := btr Qd b10
    replace hsa := hsa.below b10
    have hFf := HFB.out _ Qf
    have a8 := (HFo.out _ Qf)
    have n8 := hFf.nf 8
    obtain ⟨v8, hv8⟩ := fo_c8 a8
    have k8 := hFf.c 8 _ hv8
    have hFg := hFf.set 8 (.slice none 0 0) (by rw [h9]; omega)
    have hMg := (HMB.out _ Qf).apart1 HGM.out 8 (.slice none 0 0)
    have B4g := bset (btr HB46.out Qf) (p := ⟨gF, 8, none⟩) (by show w4.heap.size ≤ gF; rw [HGF.out]; exact Nat.le_refl _) (.slice none 0 0)
    clear a8 hv8 hFm2 Qd b10 HMB HFB HFo HAI
    go_upto_region 14 with (fail)
    obtain ⟨wg, hwg⟩ : ∃ W, W = wf.setCell ⟨gF, 8, none⟩ (.slice none 0 0) := ⟨_, rfl⟩
    have hgl : gF < w6.heap.size := (HGL.out)
    have hsg := sl_far hsa hfr hgl 8 (.slice none 0 0)
    rw [← hwg] at hFg hMg B4g hsg ⊢
    have HFG := Lib.hid fun V (hV : Below wg.heap.size wg V) => hFg.below hV
    have HMB := Lib.hid fun V (hV : Below wg.heap.size wg V) => hMg.below hV
    have HO3 := Lib.hid fun V (hV : Below wg.heap.size wg V) => HO2.out V (btr B4g hV)
    have HKG := Lib.hid fun V (hV : Below wg.heap.size wg V) => HKN.out V (btr B4g hV)
    have GG := Below.refl wg.heap.size wg
    have hBg : Below w.heap.size w wg := btr B4 B4g
    obtain ⟨⟨v1, v2⟩, ⟨v3, v4⟩, v5, v6⟩ := HWB.out
    have hkz := mul_bdF (n := 3) (m := 24) (x := k) (y := wd) (by unfold Bd; omega) (by unfold Bd; omega) (by omega) (by omega)
    have hpe0 : p * 65536 + k * wd * 65536 = (p + k * wd) * 65536 := by grind
    have hw7 : IntKind.i64.wrap (p * 65536 + k * wd * 65536) = (p + k * wd) * 65536 := by rw [hpe0]; exact IntWalk.i64_in _ (by unfold Bd at *; omega)
    clear hwg hsa hfr k8 n8 hFf Qf HO2 HKN hkz hpe0 v1 v2 v3 v4 v5 v6 HWB
    refine wp_region_ord (fun W => ∃ y : Grown wg, W = y.world) [] 19 (by kernel_rfl) (by kernel_rfl) ⟨⟨_, bdrew (Below.refl _ _)⟩, rfl⟩ ?_
    intro hS
    have HAo := Lib.hid fun (V : World) (hV : ∃ y : Grown wg, V = y.world) => (show BC V gF (C.set 8 (.slice none 0 0)) by obtain ⟨y, rfl⟩ := hV; exact HFG.out _ (btr GG y.below))
    have HMo := Lib.hid fun (V : World) (hV : ∃ y : Grown wg, V = y.world) => (show BC V gM (mtC MM) by obtain ⟨y, rfl⟩ := hV; exact HMB.out _ (btr GG y.below))
    have HG := Lib.hid (fun (V : World) (hV : Below wg.heap.size wg V) => (⟨⟨V, hV⟩, rfl⟩ : ∃ y : Grown wg, V = y.world))
    have HB := bdrew (Below.refl wg.heap.size wg)
    refine ord_take 0 rfl rfl (by kernel_rfl) (by kernel_rfl) (fun _ _ _ h => h) (yieldsIf_rec (by rfl) _ _ rfl _ rfl _ 9 foT HAo.out h9') hS ?_
    simp only [Act.put, List.setIfInBounds_toArray, List.set_cons_zero, List.set_cons_succ]
    refine ord_take 1 rfl rfl (by kernel_rfl) (by kernel_rfl) (fun _ _ _ h => h) (yieldsIf_rec (by rfl) _ _ rfl _ rfl _ 6 matT2 HMo.out rfl) hS ?_
    simp only [Act.put, List.setIfInBounds_toArray, List.set_cons_zero, List.set_cons_succ]
    refine ord_take (v := ?_) 2 rfl rfl (by kernel_rfl) (by kernel_rfl) (fun _ _ _ h => h) (Or.inl ⟨by rfl, ?_⟩) hS ?_
    rotate_left
    · rintro W ⟨y, rfl⟩
      go_simp
      (try with_reducible rfl)
    simp only [Act.put, List.setIfInBounds_toArray, List.set_cons_zero, List.set_cons_succ]
    refine ord_take (v := ?_) 4 rfl rfl (by kernel_rfl) (by kernel_rfl) (fun _ _ _ h => h) (Or.inl ⟨by rfl, ?_⟩) hS ?_
    rotate_left
    · rintro W ⟨y, rfl⟩
      go_simp
      (try with_reducible rfl)
    simp only [Act.put, List.setIfInBounds_toArray, List.set_cons_zero, List.set_cons_succ]
    refine ord_take (v := ?_) 6 rfl rfl (by kernel_rfl) (by kernel_rfl) (fun _ _ _ h => h) (Or.inl ⟨by rfl, ?_⟩) hS ?_
    rotate_left
    · rintro W ⟨y, rfl⟩
      go_simp
      (try with_reducible rfl)
    simp only [Act.put, List.setIfInBounds_toArray, List.set_cons_zero, List.set_cons_succ]
    have hS0 := hS
    have hSa := HG.out _ (bal (bdrew (Below.refl wg.heap.size wg)) (.cells #[.int .u8 (ch : Int)] 5))
    have hcv : (convert 58 9 (.slice (some ⟨wg.heap.size, 0, none⟩) 1 1)).run Try.prog ((wg.alloc (.cells #[.int .u8 (ch : Int)] 5)).drew) = .ok (.string s) ((wg.alloc (.cells #[.int .u8 (ch : Int)] 5)).drew) := hcv1 wg.drew
    clear hS
    refine cutT (α := ?al2) ?main2 ?leaf2
    case main2 =>
      intro HL
      refine ord_two 3 7 rfl rfl (by kernel_rfl) rfl rfl ?_ ?_
      · intro K hK
        go_simp
        refine (HSX.out _).mono ?_; rintro e w' ⟨rfl, rfl⟩
        refine hK.out _ _ hS0 ?_
        clear hK K
        try simp only
        refine ord_two 5 7 rfl rfl (by kernel_rfl) rfl rfl ?_ ?_
        · intro K hK
          go_simp
          refine (HSY.out _).mono ?_; rintro e w' ⟨rfl, rfl⟩
          refine hK.out _ _ hS0 ?_
          clear hK K
          try simp only
          refine ord_one 7 rfl (by kernel_rfl) rfl ?_
          intro K hK
          go_simp
          refine hK.out _ _ hSa ?_
          clear hK K
          try simp only
          refine ord_one 8 rfl (by kernel_rfl) rfl ?_
          intro K hK
          go_simp
          refine hK.out _ _ hSa ?_
          clear hK K
          try simp only
          exact HL
        · intro K hK
          go_simp
          refine hK.out _ _ hSa ?_
          clear hK K
          try simp only
          refine ord_two 5 8 rfl rfl (by kernel_rfl) rfl rfl ?_ ?_
          · intro K hK
            go_simp
            refine (HSY.out _).mono ?_; rintro e w' ⟨rfl, rfl⟩
            refine hK.out _ _ hSa ?_
            clear hK K
            try simp only
            refine ord_one 8 rfl (by kernel_rfl) rfl ?_
            intro K hK
            go_simp
            refine hK.out _ _ hSa ?_
            clear hK K
            try simp only
            exact ord_eq (by kernel_rfl) HL
          · intro K hK
            go_simp
            refine hK.out _ _ hSa ?_
            clear hK K
            try simp only
            refine ord_one 5 rfl (by kernel_rfl) rfl ?_
            intro K hK
            go_simp
            refine (HSY.out _).mono ?_; rintro e w' ⟨rfl, rfl⟩
            refine hK.out _ _ hSa ?_
            clear hK K
            try simp only
            exact ord_eq (by kernel_rfl) HL
      · intro K hK
        go_simp
        refine hK.out _ _ hSa ?_
        clear hK K
        try simp only
        refine ord_two 3 8 rfl rfl (by kernel_rfl) rfl rfl ?_ ?_
        · intro K hK
          go_simp
          refine (HSX.out _).mono ?_; rintro e w' ⟨rfl, rfl⟩
          refine hK.out _ _ hSa ?_
          clear hK K
          try simp only
          refine ord_two 5 8 rfl rfl (by kernel_rfl) rfl rfl ?_ ?_
          · intro K hK
            go_simp
            refine (HSY.out _).mono ?_; rintro e w' ⟨rfl, rfl⟩
            refine hK.out _ _ hSa ?_
            clear hK K
            try simp only
            refine ord_one 8 rfl (by kernel_rfl) rfl ?_
            intro K hK
            go_simp
            refine hK.out _ _ hSa ?_
            clear hK K
            try simp only
            exact ord_eq (by kernel_rfl) HL
          · intro K hK
            go_simp
            refine hK.out _ _ hSa ?_
            clear hK K
            try simp only
            refine ord_one 5 rfl (by kernel_rfl) rfl ?_
            intro K hK
            go_simp
            refine (HSY.out _).mono ?_; rintro e w' ⟨rfl, rfl⟩
            refine hK.out _ _ hSa ?_
            clear hK K
            try simp only
            exact ord_eq (by kernel_rfl) HL
        · intro K hK
          go_simp
          refine hK.out _ _ hSa ?_
          clear hK K
          try simp only
          refine ord_one 3 rfl (by kernel_rfl) rfl ?_
          intro K hK
          go_simp
          refine (HSX.out _).mono ?_; rintro e w' ⟨rfl, rfl⟩
          refine hK.out _ _ hSa ?_
          clear hK K
          try simp only
          refine ord_one 5 rfl (by kernel_rfl) rfl ?_
          intro K hK
          go_simp
          refine (HSY.out _).mono ?_; rintro e w' ⟨rfl, rfl⟩
          refine hK.out _ _ hSa ?_
          clear hK K
          try simp only
          exact ord_eq (by kernel_rfl) HL
    replace HB := bal (bdrew (Below.refl wg.heap.size wg)) (.cells #[.int .u8 (ch : Int)] 5)
    have hS := hSa
    clear hS0 hSa hcv
    clear hS
    refine ord_one 9 rfl (by kernel_rfl) rfl ?_
    intro K hK
    go_simp
    refine (HO3.out _ (btr GG HB)).mono ?_; rintro e wn ⟨b8, A3, c3, rfl, hsc⟩
    have Hn := btr HB b8
    refine hK.out _ _ (HG.out _ Hn) ?_
    clear hK K HB b8
    have HB := Hn
    clear Hn
    try simp only
    have hS := HG.out _ HB
    refine ord_take (v := ?_) 10 rfl rfl (by kernel_rfl) (by kernel_rfl) (fun _ _ _ h => h) (Or.inl ⟨by rfl, ?_⟩) hS ?_
    rotate_left
    · rintro W ⟨y, rfl⟩
      go_simp
      (try with_reducible rfl)
    simp only [Act.put, List.setIfInBounds_toArray, List.set_cons_zero, List.set_cons_succ]
    refine ord_take (v := ?_) 11 rfl rfl (by kernel_rfl) (by kernel_rfl) (fun _ _ _ h => h) (Or.inl ⟨by rfl, ?_⟩) hS ?_
    rotate_left
    · rintro W ⟨y, rfl⟩
      go_simp
      (try with_reducible rfl)
    simp only [Act.put, List.setIfInBounds_toArray, List.set_cons_zero, List.set_cons_succ]
    refine ord_take (v := ?_) 12 rfl rfl (by kernel_rfl) (by kernel_rfl) (fun _ _ _ h => h) (Or.inl ⟨by rfl, ?_⟩) hS ?_
    rotate_left
    · rintro W ⟨y, rfl⟩
      go_simp
      (try with_reducible rfl)
    simp only [Act.put, List.setIfInBounds_toArray, List.set_cons_zero, List.set_cons_succ]
    refine ord_take (v := ?_) 13 rfl rfl (by kernel_rfl) (by kernel_rfl) (fun _ _ _ h => h) (Or.inl ⟨by rfl, ?_⟩) hS ?_
    rotate_left
    · rintro W ⟨y, rfl⟩
      go_simp
      (try with_reducible rfl)
    simp only [Act.put, List.setIfInBounds_toArray, List.set_cons_zero, List.set_cons_succ]
    refine ord_take (v := ?_) 14 rfl rfl (by kernel_rfl) (by kernel_rfl) (fun _ _ _ h => h) (Or.inl ⟨by rfl, ?_⟩) hS ?_
    rotate_left
    · rintro W ⟨y, rfl⟩
      go_simp
      (try with_reducible rfl)
    simp only [Act.put, List.setIfInBounds_toArray, List.set_cons_zero, List.set_cons_succ]
    refine ord_take (v := ?_) 15 rfl rfl (by kernel_rfl) (by kernel_rfl) (fun _ _ _ h => h) (Or.inl ⟨by rfl, ?_⟩) hS ?_
    rotate_left
    · rintro W ⟨y, rfl⟩
      go_simp
      (try with_reducible rfl)
    simp only [Act.put, List.setIfInBounds_toArray, List.set_cons_zero, List.set_cons_succ]
    refine ord_take (v := ?_) 16 rfl rfl (by kernel_rfl) (by kernel_rfl) (fun _ _ _ h => h) (Or.inl ⟨by rfl, ?_⟩) hS ?_
    rotate_left
    · rintro W ⟨y, rfl⟩
      go_simp
      (try with_reducible rfl)
    simp only [Act.put, List.setIfInBounds_toArray, List.set_cons_zero, List.set_cons_succ]
    refine ord_take (v := ?_) 17 rfl rfl (by kernel_rfl) (by kernel_rfl) (fun _ _ _ h => h) (Or.inl ⟨by rfl, ?_⟩) hS ?_
    rotate_left
    · rintro W ⟨y, rfl⟩
      go_simp
      (try with_reducible rfl)
    simp only [Act.put, List.setIfInBounds_toArray, List.set_cons_zero, List.set_cons_succ]
    refine ord_take (v := ?_) 18 rfl rfl (by kernel_rfl) (by kernel_rfl) (fun _ _ _ h => h) (Or.inl ⟨by rfl, ?_⟩) hS ?_
    rotate_left
    · rintro W ⟨y, rfl⟩
      go_simp
      (try with_reducible rfl)
    simp only [Act.put, List.setIfInBounds_toArray, List.set_cons_zero, List.set_cons_succ]
    clear hS HG HAo HMo
    refine ⟨by kernel_rfl, ?_⟩
    refine NoPanic.normal ?_
    have Qh := HB
    have hBh := btr hBg HB
    replace hsg := hsg.below HB
    have hFh := HFG.out _ HB
    clear HB HO3 GG
    obtain ⟨wh, hwh⟩ : ∃ W, W = wn := ⟨_, rfl⟩
    rw [← hwh] at Qh hBh hsg hFh hsc ⊢
    clear hwh
    obtain ⟨X, hX⟩ : ∃ X, (p + k * wd) * 65536 = X := ⟨_, rfl⟩
    rw [hX] at hw7 ⊢
    obtain ⟨Y, hY⟩ : ∃ Y, q * 65536 = Y := ⟨_, rfl⟩
    have hYw : IntKind.i64.wrap Y = Y := by rw [← hY]; exact IntWalk.i64_in _ (by have := HQB.out; omega)
    have hYw2 : wrap64 Y = Y := by rw [← hY]; exact IntWalk.wrap64_in _ (by have := HQB.out; omega)
    rw [hY] at HSY ⊢
    clear hX hY
    go_wp2_with fail
    refine (HSX.out _).mono ?_; rintro e w' ⟨rfl, rfl⟩
    go_wp2_with fail
    refine (HSY.out _).mono ?_; rintro e w' ⟨rfl, rfl⟩
    go_wp2_with fail
    refine (sameSg_any _ _ _ _ _ _ P _ hnP6 hsc hsg).mono ?_; rintro e w13 ⟨rfl, q8, rfl⟩
    have hFi : BC (wh.drewN q8) gF (C.set 8 (.slice none 0 0)) := hFh.below (bdrewN (Below.refl _ _) q8)
    go_wp2_with (first
      | (refine wpList_load_rec_g2 (by rfl) _ _ rfl gF rfl _ 9 foT hFi h9' ?_)
      | fail)
    refine (HKG.out _ (bdrewN Qh q8)).mono ?_; rintro e wi ⟨rfl, b12⟩
    go_wp2_with fail
    go_ret
    exact ⟨rfl, btr (bdrewN hBh q8) b12⟩
  · obtain ⟨rfl, rfl⟩ := HR2.out.1 hpe
    have hpe' : (pe != 0) = true := by simp [hpe]
    clear hpe
    go_wp2_with fail
    go_ret
    exact ⟨rfl, bdrewN (btr B6 Qc) _⟩
end Go.Proofs.Ytgbppblofiogbaa
