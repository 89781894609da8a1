/- FontWalks: the walk. -/
import Derived.Test.YtahiffaocakhjaaMFt
namespace Go.Proofs.Ytahiffaocakhjaa
open Go.RowKit Go.BigFrame

set_option maxRecDepth 100000 in
set_option maxHeartbeats 8000000 in
theorem FontWalks_any (A : Option Addr) (n c : Nat) (A' : Option Addr) (n' c' : Nat) (x y : Int) (w : World) (h : InA w A n) (hnc : n ≤ c) (hcm : c ≤ 9223372036854775807)
    (h' : InA w A' n') (hnc' : n' ≤ c') (hcm' : c' ≤ 9223372036854775807) :
    Calls Try.prog 4 #[.slice A n c, .slice A' n' c', .int .i64 x, .int .i64 y] w fun e w' => e = .returned (.bool true) ∧ Below w.heap.size w w' := by
  obtain ⟨zs, hz⟩ := h.sl
  obtain ⟨ts, ht⟩ := h'.sl
  have HMD := Lib.hid fun W (hb : Below w.heap.size w W) => Made41_any A n c zs W hnc hcm (hz.below hb)
  have HTX := Lib.hid fun W (hb : Below w.heap.size w W) => text_any A' n' c' ts W hnc' hcm' (ht.below hb)
  clear h h' hnc hcm hnc' hcm' hz ht
  go_enter Try.func4, Try.ntmps4
  go_wp2_with fail
  refine (known41_any _).mono ?_; rintro e w1 ⟨rfl, b1⟩
  go_wp2_with fail
  refine (HMD.out _ b1).mono ?_; rintro e w2 ⟨F, C, rfl, hFo, hMF, b2⟩
  have B2 := btr b1 b2
  go_wp2_with fail
  refine (HTX.out _ B2).mono ?_; rintro e w3 ⟨s, rfl, hbs, b3⟩
  have B3 := btr B2 b3
  go_wp2_with fail
  refine (matOne_any _).mono ?_; rintro e w4 ⟨rfl, b4⟩
  have B4 := btr B3 b4
  have hFo4 := (hFo.below b3).below b4
  have h9 := hFo4.len
  have h1c := one_foC hFo4
  obtain ⟨w5, w6, hw5, hw6, Z0, Z1, F6, M6, b6⟩ := put_FM (W := w4) oneM h9
  have HW5 := Lib.hid hw5
  have HW6 := Lib.hid hw6
  have hFo6 := hFo4.below b6
  have B6 := btr B4 b6
  have hvm : mtv oneM = .agg (mtC oneM).toArray := rfl
  rw [hvm]
  have hz1 : foZ.toArray = #[.int .i64 0, .int .i64 0, .int .i64 0, .int .i64 0, .int .i64 0, .int .i64 0, .slice none 0 0, .slice none 0 0, .slice none 0 0] := rfl
  have hz2 : (mtC zeroM).toArray = #[.int .i64 0, .int .i64 0, .int .i64 0, .int .i64 0, .int .i64 0, .int .i64 0] := rfl
  rw [hz1, hz2] at Z0 HW5
  clear hw5 hw6 hvm hz1 hz2 b1 b2 b3 b4 hFo hFo4 B2 B3
  go_wp2_with (first
    | (refine wpList_store_rec rfl _ _ _ rfl w4.heap.size C _ rfl rfl 9 foT Z0 rfl h9 h1c ?_; rw [← HW5.out])
    | (refine wpList_store_rec rfl _ _ _ rfl (w4.heap.size + 1) (mtC oneM) _ rfl rfl 6 matT2 Z1 rfl rfl (mtC_oneR _) ?_; rw [← HW6.out])
    | fail)
  obtain ⟨gM, hgM⟩ : ∃ g, g = w4.heap.size + 1 := ⟨_, rfl⟩
  rw [← hgM] at M6 ⊢
  obtain ⟨gF, hgF⟩ : ∃ g, g = w4.heap.size := ⟨_, rfl⟩
  rw [← hgF] at F6 ⊢
  clear hgM hgF Z0 Z1 HW5 HW6 b6 h1c
  obtain ⟨k, hk, hm⟩ := font_is hMF
  obtain ⟨p0, hp0, hp1, hp2⟩ := small_bd x
  obtain ⟨q, hq0, hq1, hq2⟩ := small_bd y
  have HSX := Lib.hid fun W => small_any x W
  have HSY := Lib.hid fun W => small_any y W
  rw [hp0] at HSX
  rw [hq0] at HSY
  have HP := Lib.hid (show Bd 39 p0 by unfold Bd; omega)
  have HQ := Lib.hid (show Bd 39 q by unfold Bd; omega)
  have HOW := Lib.hid (ow_one hMF hk hm (q := q) (by unfold Bd; omega))
  have hs8 : s.size ≤ 8 := by have := textN_len ts; rw [← hbs, bl_len] at this; exact this
  have HLT : Hid (∀ b ∈ bl s, b < 3) := Lib.hid (by rw [hbs]; exact textN_lt ts)
  have HMA := Lib.hid hm
  have HFB := Lib.hid fun V (hV : Below w6.heap.size w6 V) => F6.below hV
  have HMB := Lib.hid fun V (hV : Below w6.heap.size w6 V) => M6.below hV
  have HFo := Lib.hid fun V (hV : Below w6.heap.size w6 V) => hFo6.below hV
  have HMF := Lib.hid hMF
  have hss : IntKind.i64.wrap (s.size : Int) = s.size := IntWalk.i64_in _ (by omega)
  obtain ⟨n8, hn8⟩ : ∃ n, s.size = n := ⟨_, rfl⟩
  have HN8 := Lib.hid hn8
  rw [hn8] at hs8
  clear hp0 hp1 hp2 hq0 hq1 hq2 hbs hm hk F6 M6 hFo6 hMF hn8 HMD HTX
  go_wp2_with fail
  refine (HSX.out _).mono ?_; rintro e w' ⟨rfl, rfl⟩
  go_wp2_with fail
  refine (HSY.out _).mono ?_; rintro e w' ⟨rfl, rfl⟩
  go_wp2_with fail
  go_loopw [12, 14, 15] (fun xv lv iv wr => ∃ (i : Nat) (A1 : Option Addr) (c1 : Nat) (l : List Sg) (p : Int) (n1 : Nat), i ≤ n8 ∧ xv = .int .i64 (p * 65536) ∧ lv = .slice A1 n1 c1 ∧ iv = .int .i64 (i : Int) ∧ Below w6.heap.size w6 wr ∧
    Hid (outW F k 1 0 0 1 0 0 q (bl s) p0 [] = outW F k 1 0 0 1 0 0 q ((bl s).drop i) p l) ∧ Sl wr 5 A1 n1 (sgs l) ∧ n1 ≤ c1 ∧ Hid (mayB l = true) ∧ n1 ≤ 6 * i ∧ Hid (Bd (39 + 84 * i) p)) (fun _ _ iv _ => n8 - (intOf iv).toNat)
  case atStart => exact ⟨0, none, 0, [], p0, 0, by omega, rfl, rfl, rfl, Below.refl _ _, Lib.hid rfl, Sl.nil_, Nat.le_refl _, Lib.hid rfl, by omega, Lib.hid (by have := HP.out; unfold Bd at *; omega)⟩
  case round =>
    obtain ⟨wo, rfl⟩ : ∃ wo : World, wo = wr := ⟨_, rfl⟩
    obtain ⟨i, A1, c1, l, p, n1, hi, rfl, rfl, rfl, hbr, how, hs1, hnc1, hml, hn1, hpb⟩ := hrel
    have hll := hs1.sglen
    by_cases hlt : i < n8
    · have hks : i < s.size := by rw [HN8.out]; exact hlt
      have hdrop := bl_dropF hks
      have hby := fun W => run_byt (t := 9) (i := (i : Int)) rfl Try.underlying9 hks W
      have hcb := byt_lt s i
      have hc3 : byt s i < 3 := HLT.out _ (by have : byt s i ∈ (bl s).drop i := by rw [hdrop]; simp
                                              exact List.mem_of_mem_drop this)
      obtain ⟨ch, hch⟩ : ∃ c, byt s i = c := ⟨_, rfl⟩
      have HCH := Lib.hid hch
      rw [hch] at hdrop hby hcb hc3
      have hp7 : Bd 1000 p := by have := hpb.out; unfold Bd at *; omega
      obtain ⟨L, wd, r1, r2, r3, r4, r5, r6, r7, r8, r9⟩ := one_whole_step HOW.out hc3 p hp7 hml.out (by omega)
      have how2 := how.out
      rw [hdrop, outW, r1] at how2
      simp only at how2
      obtain ⟨D, hD⟩ : ∃ D, L.map (affS (k * 1) (k * 0) (k * 0) (k * 1) (p * 1 + q * 0 + 0) (p * 0 + q * 1 + 0)) = D := ⟨_, rfl⟩
      rw [hD] at how2 r5 r6 r7 r8 r9
      obtain ⟨J, hJ⟩ : ∃ J, jn l D = J := ⟨_, rfl⟩
      rw [hJ] at how2 r7 r8 r9
      have fx : fixB (p * 65536) = true := fix_p (by unfold Bd at *; omega)
      have fy : fixB (q * 65536) = true := fix_p (by have := HQ.out; unfold Bd at *; omega)
      have hpath : pathF F oneM (p * 65536) (q * 65536) ch = (D, 0) := (pathF_made HMF.out (m := oneM) (by decide) fx fy r1).trans r5
      have hDl := may_len r6
      have hJl := may_len r8
      have HPA := Lib.hid fun V (hV : Below w6.heap.size w6 V) => fontPath_any F C oneM (p * 65536) (q * 65536) ch (D, 0) V hcb (HFo.out V hV) hpath
      obtain ⟨nd, hnd⟩ : ∃ n, n = D.length := ⟨_, rfl⟩
      obtain ⟨nj, hnj⟩ : ∃ n, n = J.length := ⟨_, rfl⟩
      have HJC := Lib.hid fun V A4 c4 (hV : Below wo.heap.size wo V) (h4 : Sl V 5 A4 nd (sgs D)) => Join_any A1 A4 n1 c1 nd c4 l D (J, 0) V (by omega) (by rw [hnd]; omega) hnc1 (hs1.below hV) h4 r7
      have hwide := wideF_made HMF.out r1
      have HWD := Lib.hid fun V (hV : Below w6.heap.size w6 V) => fontWide_any F C ch V hcb (HFo.out V hV)
      rw [hwide] at HWD
      simp only [vm] at HPA HJC HWD
      rw [← hnd] at HPA
      rw [← hnj] at HJC r9
      have hnj2 : nj ≤ 6 * (i + 1) := by omega
      have HMJ := Lib.hid r8
      have HO2 := Lib.hid how2
      have hzst := step_bd HMF.out hc3 ((bl s).drop (i + 1))
      obtain ⟨z, hzz⟩ : ∃ z, stepF F ch ((bl s).drop (i + 1)) = z := ⟨_, rfl⟩
      have hz1 : wd + (match (bl s).drop (i + 1) with | [] => 0 | d :: _ => kernF F ch d) = z := by rw [← hzz]; unfold stepF; simp only [r1]; generalize (bl s).drop (i + 1) = dd; cases dd <;> rfl
      rw [hzz] at hzst how2
      have hkz := kz_bd HOW.out.hk hzst
      have HO2 := Lib.hid how2
      have HZ := Lib.hid hz1
      have HKZ := Lib.hid hkz
      have HZB := Lib.hid hzst
      have HWDB := Lib.hid (show 0 ≤ wd ∧ wd ≤ 24 from ⟨r3, r4⟩)
      have HP7 := Lib.hid hp7
      have hwi : ∀ V, (Instr.index 9 (.string s) (.int .i64 (i : Int))).run Try.prog V = .ok (.int .u8 ch) V := hby
      clear r1 r2 r3 r4 r5 r6 r7 r8 r9 hpath hdrop hch hD hJ how how2 hnd hnj fx fy hDl hwide hz1 hzz hzst hkz hp7 hby hml hll
      go_upto_region 9 with (fail)
      refine wp_region_ord (fun W => ∃ y : Grown wo, W = y.world) [] 13 (by kernel_rfl) (by kernel_rfl) ⟨⟨_, bdrew (Below.refl _ _)⟩, rfl⟩ ?_
      intro hS
      have HAo := Lib.hid fun (V : World) (hV : ∃ y : Grown wo, V = y.world) => (show BC V gF C by obtain ⟨y, rfl⟩ := hV; exact HFB.out _ (btr hbr y.below))
      have HMo := Lib.hid fun (V : World) (hV : ∃ y : Grown wo, V = y.world) => (show BC V gM (mtC oneM) by obtain ⟨y, rfl⟩ := hV; exact HMB.out _ (btr hbr y.below))
      have HG := Lib.hid (fun (V : World) (hV : Below wo.heap.size wo V) => (⟨⟨V, hV⟩, rfl⟩ : ∃ y : Grown wo, V = y.world))
      have HB := bdrew (Below.refl wo.heap.size wo)
      refine ord_take 0 rfl rfl (by kernel_rfl) (by kernel_rfl) (fun _ _ _ h => h) (yieldsIf_rec (by rfl) _ _ rfl _ rfl _ 9 foT HAo.out h9) hS ?_
      simp only [Act.put, List.setIfInBounds_toArray, List.set_cons_zero, List.set_cons_succ]
      refine ord_take 1 rfl rfl (by kernel_rfl) (by kernel_rfl) (fun _ _ _ h => h) (yieldsIf_rec (by rfl) _ _ rfl _ rfl _ 6 matT2 HMo.out rfl) hS ?_
      simp only [Act.put, List.setIfInBounds_toArray, List.set_cons_zero, List.set_cons_succ]
      refine ord_take (v := ?_) 2 rfl rfl (by kernel_rfl) (by kernel_rfl) (fun _ _ _ h => h) (Or.inl ⟨by rfl, ?_⟩) hS ?_
      rotate_left
      · rintro W ⟨y, rfl⟩
        go_simp
        (try with_reducible rfl)
      simp only [Act.put, List.setIfInBounds_toArray, List.set_cons_zero, List.set_cons_succ]
      refine ord_take (v := ?_) 3 rfl rfl (by kernel_rfl) (by kernel_rfl) (fun _ _ _ h => h) (Or.inl ⟨by rfl, ?_⟩) hS ?_
      rotate_left
      · rintro W ⟨y, rfl⟩
        go_simp
        (try with_reducible rfl)
      simp only [Act.put, List.setIfInBounds_toArray, List.set_cons_zero, List.set_cons_succ]
      refine ord_take (v := ?_) 4 rfl rfl (by kernel_rfl) (by kernel_rfl) (fun _ _ _ h => h) (Or.inl ⟨by rfl, ?_⟩) hS ?_
      rotate_left
      · rintro W ⟨y, rfl⟩
        go_simp
        (try with_reducible rfl)
      simp only [Act.put, List.setIfInBounds_toArray, List.set_cons_zero, List.set_cons_succ]
      refine ord_take (v := ?_) 5 rfl rfl (by kernel_rfl) (by kernel_rfl) (fun _ _ _ h => h) (Or.inl ⟨by rfl, ?_⟩) hS ?_
      rotate_left
      · rintro W ⟨y, rfl⟩
        go_simp
        (try with_reducible rfl)
      simp only [Act.put, List.setIfInBounds_toArray, List.set_cons_zero, List.set_cons_succ]
      refine ord_take (v := ?_) 6 rfl rfl (by kernel_rfl) (by kernel_rfl) (fun _ _ _ h => h) (Or.inl ⟨by rfl, ?_⟩) hS ?_
      rotate_left
      · rintro W ⟨y, rfl⟩
        go_simp
        (try with_reducible rfl)
      simp only [Act.put, List.setIfInBounds_toArray, List.set_cons_zero, List.set_cons_succ]
      clear hS
      refine ord_one 7 rfl (by kernel_rfl) rfl ?_
      intro K hK
      go_simp
      refine (HPA.out _ (btr hbr HB)).mono ?_; rintro e wn ⟨b8, A3, c3, rfl, hs3⟩
      have Hn := btr HB b8
      refine hK.out _ _ (HG.out _ Hn) ?_
      clear hK K HB b8
      have HB := Hn
      clear Hn
      try simp only
      have hS := HG.out _ HB
      refine ord_take (v := ?_) 8 rfl rfl (by kernel_rfl) (by kernel_rfl) (fun _ _ _ h => h) (Or.inl ⟨by rfl, ?_⟩) hS ?_
      rotate_left
      · rintro W ⟨y, rfl⟩
        go_simp
        (try with_reducible rfl)
      simp only [Act.put, List.setIfInBounds_toArray, List.set_cons_zero, List.set_cons_succ]
      refine ord_take (v := ?_) 9 rfl rfl (by kernel_rfl) (by kernel_rfl) (fun _ _ _ h => h) (Or.inl ⟨by rfl, ?_⟩) hS ?_
      rotate_left
      · rintro W ⟨y, rfl⟩
        go_simp
        (try with_reducible rfl)
      simp only [Act.put, List.setIfInBounds_toArray, List.set_cons_zero, List.set_cons_succ]
      refine ord_take (v := ?_) 10 rfl rfl (by kernel_rfl) (by kernel_rfl) (fun _ _ _ h => h) (Or.inl ⟨by rfl, ?_⟩) hS ?_
      rotate_left
      · rintro W ⟨y, rfl⟩
        go_simp
        (try with_reducible rfl)
      simp only [Act.put, List.setIfInBounds_toArray, List.set_cons_zero, List.set_cons_succ]
      refine ord_take (v := ?_) 11 rfl rfl (by kernel_rfl) (by kernel_rfl) (fun _ _ _ h => h) (Or.inl ⟨by rfl, ?_⟩) hS ?_
      rotate_left
      · rintro W ⟨y, rfl⟩
        go_simp
        (try with_reducible rfl)
      simp only [Act.put, List.setIfInBounds_toArray, List.set_cons_zero, List.set_cons_succ]
      refine ord_take (v := ?_) 12 rfl rfl (by kernel_rfl) (by kernel_rfl) (fun _ _ _ h => h) (Or.inl ⟨by rfl, ?_⟩) hS ?_
      rotate_left
      · rintro W ⟨y, rfl⟩
        go_simp
        (try with_reducible rfl)
      simp only [Act.put, List.setIfInBounds_toArray, List.set_cons_zero, List.set_cons_succ]
      clear hS HG HAo HMo
      refine ⟨by kernel_rfl, ?_⟩
      refine NoPanic.normal ?_
      have Q9 := btr hbr HB
      have HJ2 := Lib.hid (HJC.out _ A3 c3 HB hs3)
      clear HPA HJC hs3 hs1
      go_wp2_with fail
      refine HJ2.out.mono ?_; rintro e w10 ⟨A5, c5, rfl, ho5, b10⟩
      have Q10 := btr Q9 b10
      have hs5 := own_sl ho5
      have hc5 := own_cap ho5
      clear HJ2 ho5 b10 HB Q9
      go_upto_region 11 with (fail)
      refine wp_region_ord (fun W => ∃ y : Grown w10, W = y.world) [] 10 (by kernel_rfl) (by kernel_rfl) ⟨⟨_, bdrew (Below.refl _ _)⟩, rfl⟩ ?_
      intro hS
      have HAo := Lib.hid fun (V : World) (hV : ∃ y : Grown w10, V = y.world) => (show BC V gF C by obtain ⟨y, rfl⟩ := hV; exact HFB.out _ (btr Q10 y.below))
      have HMo := Lib.hid fun (V : World) (hV : ∃ y : Grown w10, V = y.world) => (show BC V gM (mtC oneM) by obtain ⟨y, rfl⟩ := hV; exact HMB.out _ (btr Q10 y.below))
      have HG := Lib.hid (fun (V : World) (hV : Below w10.heap.size w10 V) => (⟨⟨V, hV⟩, rfl⟩ : ∃ y : Grown w10, V = y.world))
      have HB := bdrew (Below.refl w10.heap.size w10)
      refine ord_take 0 rfl rfl (by kernel_rfl) (by kernel_rfl) (fun _ _ _ h => h) (yieldsIf_rec (by rfl) _ _ rfl _ rfl _ 9 foT HAo.out h9) hS ?_
      simp only [Act.put, List.setIfInBounds_toArray, List.set_cons_zero, List.set_cons_succ]
      refine ord_take (v := ?_) 1 rfl rfl (by kernel_rfl) (by kernel_rfl) (fun _ _ _ h => h) (Or.inl ⟨by rfl, ?_⟩) hS ?_
      rotate_left
      · rintro W ⟨y, rfl⟩
        go_simp
        (try with_reducible rfl)
      simp only [Act.put, List.setIfInBounds_toArray, List.set_cons_zero, List.set_cons_succ]
      refine ord_take (v := ?_) 2 rfl rfl (by kernel_rfl) (by kernel_rfl) (fun _ _ _ h => h) (Or.inl ⟨by rfl, ?_⟩) hS ?_
      rotate_left
      · rintro W ⟨y, rfl⟩
        go_simp
        (try with_reducible rfl)
      simp only [Act.put, List.setIfInBounds_toArray, List.set_cons_zero, List.set_cons_succ]
      refine ord_take (v := ?_) 3 rfl rfl (by kernel_rfl) (by kernel_rfl) (fun _ _ _ h => h) (Or.inl ⟨by rfl, ?_⟩) hS ?_
      rotate_left
      · rintro W ⟨y, rfl⟩
        go_simp
        (try with_reducible rfl)
      simp only [Act.put, List.setIfInBounds_toArray, List.set_cons_zero, List.set_cons_succ]
      clear hS
      refine ord_one 4 rfl (by kernel_rfl) rfl ?_
      intro K hK
      go_simp
      refine (HWD.out _ (btr Q10 HB)).mono ?_; rintro e wn ⟨rfl, b8⟩
      have Hn := btr HB b8
      refine hK.out _ _ (HG.out _ Hn) ?_
      clear hK K HB b8
      have HB := Hn
      clear Hn
      try simp only
      have hS := HG.out _ HB
      refine ord_take (v := ?_) 5 rfl rfl (by kernel_rfl) (by kernel_rfl) (fun _ _ _ h => h) (Or.inl ⟨by rfl, ?_⟩) hS ?_
      rotate_left
      · rintro W ⟨y, rfl⟩
        go_simp
        (try with_reducible rfl)
      simp only [Act.put, List.setIfInBounds_toArray, List.set_cons_zero, List.set_cons_succ]
      refine ord_take (v := ?_) 6 rfl rfl (by kernel_rfl) (by kernel_rfl) (fun _ _ _ h => h) (Or.inl ⟨by rfl, ?_⟩) hS ?_
      rotate_left
      · rintro W ⟨y, rfl⟩
        go_simp
        (try with_reducible rfl)
      simp only [Act.put, List.setIfInBounds_toArray, List.set_cons_zero, List.set_cons_succ]
      refine ord_take (v := ?_) 7 rfl rfl (by kernel_rfl) (by kernel_rfl) (fun _ _ _ h => h) (Or.inl ⟨by rfl, ?_⟩) hS ?_
      rotate_left
      · rintro W ⟨y, rfl⟩
        go_simp
        (try with_reducible rfl)
      simp only [Act.put, List.setIfInBounds_toArray, List.set_cons_zero, List.set_cons_succ]
      refine ord_take (v := ?_) 8 rfl rfl (by kernel_rfl) (by kernel_rfl) (fun _ _ _ h => h) (Or.inl ⟨by rfl, ?_⟩) hS ?_
      rotate_left
      · rintro W ⟨y, rfl⟩
        go_simp
        (try with_reducible rfl)
      simp only [Act.put, List.setIfInBounds_toArray, List.set_cons_zero, List.set_cons_succ]
      refine ord_take (v := ?_) 9 rfl rfl (by kernel_rfl) (by kernel_rfl) (fun _ _ _ h => h) (Or.inl ⟨by rfl, ?_⟩) hS ?_
      rotate_left
      · rintro W ⟨y, rfl⟩
        go_simp
        (try with_reducible rfl)
      simp only [Act.put, List.setIfInBounds_toArray, List.set_cons_zero, List.set_cons_succ]
      clear hS HG HAo HMo
      refine ⟨by kernel_rfl, ?_⟩
      refine NoPanic.normal ?_
      obtain ⟨w11, hw11⟩ : ∃ W, W = wn := ⟨_, rfl⟩
      rw [← hw11] at HB ⊢
      have Q11 := btr Q10 HB
      have hs11 := hs5.below HB
      clear hw11 HB hs5 Q10 HWD
      have hiw : IntKind.i64.wrap ((i : Int) + 1) = (i : Int) + 1 := IntWalk.i64_in _ (by omega)
      have hzb := HZB.out
      have hkb := HKZ.out
      have hpb2 := HP7.out
      have hk3 := HOW.out.hk
      have hzk : z * (k * 65536) = k * z * 65536 := by grind
      have hw1 : IntKind.i64.wrap (z * (k * 65536)) = k * z * 65536 := by rw [hzk]; exact IntWalk.i64_in _ (by unfold Bd at *; omega)
      have hw2 : IntKind.i64.wrap (p * 65536 + k * z * 65536) = (p + k * z) * 65536 := by
        have : p * 65536 + k * z * 65536 = (p + k * z) * 65536 := by grind
        rw [this]; exact IntWalk.i64_in _ (by unfold Bd at *; omega)
      have HPB3 : Hid (Bd (39 + 84 * ((i + 1 : Nat) : Int)) (p + k * z)) := Lib.hid (by have := hpb.out; unfold Bd at *; omega)
      clear hzk hzb hkb hpb2 hpb
      have ha0 : ∀ V, Below w6.heap.size w6 V → V.cell? ⟨gF, 0, none⟩ = some (.int .i64 (k * 65536)) := fun V hV => by
        have := (HFB.out V hV).c 0 _ (fo_c0 (HFo.out V hV))
        rw [HMA.out] at this; exact this
      by_cases hi1 : i + 1 < n8
      · have hi1' : decide ((i : Int) + 1 < (s.size : Int)) = true := decide_eq_true (by rw [HN8.out]; omega)
        have hks1 : i + 1 < s.size := by rw [HN8.out]; exact hi1
        have hwi2 := fun V => run_byt (t := 9) (i := (i : Int) + 1) (k := i + 1) (by omega) Try.underlying9 hks1 V
        have hcb2 := byt_lt s (i + 1)
        have hz1 := HZ.out
        rw [bl_dropF hks1] at hz1
        obtain ⟨d, hd⟩ : ∃ d, byt s (i + 1) = d := ⟨_, rfl⟩
        rw [hd] at hz1 hwi2 hcb2
        simp only at hz1
        obtain ⟨kv, hkv⟩ : ∃ v, kernF F ch d = v := ⟨_, rfl⟩
        have HKC := Lib.hid fun V (hV : Below w6.heap.size w6 V) => Kern_any F C ch d V hcb hcb2 (HFo.out V hV)
        rw [HMF.out.open, hkv] at HKC
        simp only [if_true] at HKC
        rw [hkv] at hz1
        have hadd : IntKind.i64.wrap (wd + kv) = z := by rw [hz1]; exact IntWalk.i64_in _ (by have := HZB.out; unfold Bd at *; omega)
        clear hd hkv hz1 hi1
        go_upto_region 16 with (fail)
        refine wp_region_ord (fun W => ∃ y : Grown w11, W = y.world) [] 12 (by kernel_rfl) (by kernel_rfl) ⟨⟨_, bdrew (Below.refl _ _)⟩, rfl⟩ ?_
        intro hS
        have HAo := Lib.hid fun (V : World) (hV : ∃ y : Grown w11, V = y.world) => (show BC V gF C by obtain ⟨y, rfl⟩ := hV; exact HFB.out _ (btr Q11 y.below))
        have HMo := Lib.hid fun (V : World) (hV : ∃ y : Grown w11, V = y.world) => (show BC V gM (mtC oneM) by obtain ⟨y, rfl⟩ := hV; exact HMB.out _ (btr Q11 y.below))
        have HG := Lib.hid (fun (V : World) (hV : Below w11.heap.size w11 V) => (⟨⟨V, hV⟩, rfl⟩ : ∃ y : Grown w11, V = y.world))
        have HB := bdrew (Below.refl w11.heap.size w11)
        refine ord_take (v := ?_) 0 rfl rfl (by kernel_rfl) (by kernel_rfl) (fun _ _ _ h => h) (Or.inl ⟨by rfl, ?_⟩) hS ?_
        rotate_left
        · rintro W ⟨y, rfl⟩
          go_simp
          (try with_reducible rfl)
        simp only [Act.put, List.setIfInBounds_toArray, List.set_cons_zero, List.set_cons_succ]
        refine ord_take 1 rfl rfl (by kernel_rfl) (by kernel_rfl) (fun _ _ _ h => h) (yieldsIf_rec (by rfl) _ _ rfl _ rfl _ 9 foT HAo.out h9) hS ?_
        simp only [Act.put, List.setIfInBounds_toArray, List.set_cons_zero, List.set_cons_succ]
        refine ord_take (v := ?_) 2 rfl rfl (by kernel_rfl) (by kernel_rfl) (fun _ _ _ h => h) (Or.inl ⟨by rfl, ?_⟩) hS ?_
        rotate_left
        · rintro W ⟨y, rfl⟩
          go_simp
          (try with_reducible rfl)
        simp only [Act.put, List.setIfInBounds_toArray, List.set_cons_zero, List.set_cons_succ]
        refine ord_take (v := ?_) 3 rfl rfl (by kernel_rfl) (by kernel_rfl) (fun _ _ _ h => h) (Or.inl ⟨by rfl, ?_⟩) hS ?_
        rotate_left
        · rintro W ⟨y, rfl⟩
          go_simp
          (try with_reducible rfl)
        simp only [Act.put, List.setIfInBounds_toArray, List.set_cons_zero, List.set_cons_succ]
        refine ord_take (v := ?_) 4 rfl rfl (by kernel_rfl) (by kernel_rfl) (fun _ _ _ h => h) (Or.inl ⟨by rfl, ?_⟩) hS ?_
        rotate_left
        · rintro W ⟨y, rfl⟩
          go_simp
          (try with_reducible rfl)
        simp only [Act.put, List.setIfInBounds_toArray, List.set_cons_zero, List.set_cons_succ]
        refine ord_take (v := ?_) 5 rfl rfl (by kernel_rfl) (by kernel_rfl) (fun _ _ _ h => h) (Or.inl ⟨by rfl, ?_⟩) hS ?_
        rotate_left
        · rintro W ⟨y, rfl⟩
          go_simp
          (try with_reducible rfl)
        simp only [Act.put, List.setIfInBounds_toArray, List.set_cons_zero, List.set_cons_succ]
        refine ord_take (v := ?_) 6 rfl rfl (by kernel_rfl) (by kernel_rfl) (fun _ _ _ h => h) (Or.inl ⟨by rfl, ?_⟩) hS ?_
        rotate_left
        · rintro W ⟨y, rfl⟩
          go_simp
          (try with_reducible rfl)
        simp only [Act.put, List.setIfInBounds_toArray, List.set_cons_zero, List.set_cons_succ]
        refine ord_take (v := ?_) 7 rfl rfl (by kernel_rfl) (by kernel_rfl) (fun _ _ _ h => h) (Or.inl ⟨by rfl, ?_⟩) hS ?_
        rotate_left
        · rintro W ⟨y, rfl⟩
          go_simp
          (try with_reducible rfl)
        simp only [Act.put, List.setIfInBounds_toArray, List.set_cons_zero, List.set_cons_succ]
        refine ord_take (v := ?_) 8 rfl rfl (by kernel_rfl) (by kernel_rfl) (fun _ _ _ h => h) (Or.inl ⟨by rfl, ?_⟩) hS ?_
        rotate_left
        · rintro W ⟨y, rfl⟩
          go_simp
          (try with_reducible rfl)
        simp only [Act.put, List.setIfInBounds_toArray, List.set_cons_zero, List.set_cons_succ]
        clear hS
        refine ord_one 9 rfl (by kernel_rfl) rfl ?_
        intro K hK
        go_simp
        refine (HKC.out _ (btr Q11 HB)).mono ?_; rintro e wn ⟨rfl, b8⟩
        have Hn := btr HB b8
        refine hK.out _ _ (HG.out _ Hn) ?_
        clear hK K HB b8
        have HB := Hn
        clear Hn
        try simp only
        have hS := HG.out _ HB
        refine ord_take (v := ?_) 10 rfl rfl (by kernel_rfl) (by kernel_rfl) (fun _ _ _ h => h) (Or.inl ⟨by rfl, ?_⟩) hS ?_
        rotate_left
        · rintro W ⟨y, rfl⟩
          go_simp
          (try with_reducible rfl)
        simp only [Act.put, List.setIfInBounds_toArray, List.set_cons_zero, List.set_cons_succ]
        refine ord_take (v := ?_) 11 rfl rfl (by kernel_rfl) (by kernel_rfl) (fun _ _ _ h => h) (Or.inl ⟨by rfl, ?_⟩) hS ?_
        rotate_left
        · rintro W ⟨y, rfl⟩
          go_simp
          (try with_reducible rfl)
        simp only [Act.put, List.setIfInBounds_toArray, List.set_cons_zero, List.set_cons_succ]
        clear hS HG HAo HMo
        refine ⟨by kernel_rfl, ?_⟩
        refine NoPanic.normal ?_
        have Q12 := btr Q11 HB
        have hs12 := hs11.below HB
        have a0 := ha0 _ Q12
        clear ha0 HKC hwi2 hwi
        go_wp2_with fail
        go_roundw
        case rel => exact ⟨i + 1, A5, c5, J, p + k * z, nj, by omega, rfl, rfl, by go_num, Q12, HO2, hs12, hc5, HMJ, hnj2, HPB3⟩
        case measure => (simp [intOf]) <;> omega
      · have hi1' : decide ((i : Int) + 1 < (s.size : Int)) = false := decide_eq_false (by rw [HN8.out]; omega)
        have hzw : z = wd := by
          rw [← HZ.out, List.drop_of_length_le (show (bl s).length ≤ i + 1 by rw [bl_len, HN8.out]; omega)]; simp
        subst hzw
        have a0 := ha0 _ Q11
        clear ha0
        go_wp2_with fail
        go_roundw
        case rel => exact ⟨i + 1, A5, c5, J, p + k * z, nj, by omega, rfl, rfl, by go_num, Q11, HO2, hs11, hc5, HMJ, hnj2, HPB3⟩
        case measure => (simp [intOf]) <;> omega
    · obtain rfl : i = n8 := by omega
      have hks : ¬ (i : Int) < (s.size : Int) := by rw [HN8.out]; omega
      have hks' : decide ((i : Int) < (s.size : Int)) = false := decide_eq_false hks
      have how2 := how.out
      rw [List.drop_of_length_le (by rw [bl_len, HN8.out]; omega), outW] at how2
      have fx : fixB (p0 * 65536) = true := fix_p (by have := HP.out; unfold Bd at *; omega)
      have fy : fixB (q * 65536) = true := fix_p (by have := HQ.out; unfold Bd at *; omega)
      have hout : outF F oneM (p0 * 65536) (q * 65536) (bl s) = ((l, p * 65536, q * 65536), 0) := by
        rw [outF_made HMF.out (m := oneM) (by decide) fx fy]
        have h2 := outS_whole HOW.out (bl s) p0 [] HLT.out (by rw [bl_len, HN8.out]; omega) (by rw [bl_len, HN8.out]; have := HP.out; unfold Bd at *; omega) rfl (by rw [bl_len, HN8.out]; simp; omega)
        rw [how2] at h2
        exact h2
      have HOT := Lib.hid fun V (hV : Below w6.heap.size w6 V) => outline_any F C oneM (p0 * 65536) (q * 65536) s ((l, p * 65536, q * 65536), 0) V (by rw [HN8.out]; omega) (HFo.out V hV) hout
      simp only [vm] at HOT
      rw [hll] at HOT
      clear how how2 fx fy hout
      go_upto_region 18 with (fail)
      refine wp_region_ord (fun W => ∃ y : Grown wo, W = y.world) [] 17 (by kernel_rfl) (by kernel_rfl) ⟨⟨_, bdrew (Below.refl _ _)⟩, rfl⟩ ?_
      intro hS
      have HAo := Lib.hid fun (V : World) (hV : ∃ y : Grown wo, V = y.world) => (show BC V gF C by obtain ⟨y, rfl⟩ := hV; exact HFB.out _ (btr hbr y.below))
      have HMo := Lib.hid fun (V : World) (hV : ∃ y : Grown wo, V = y.world) => (show BC V gM (mtC oneM) by obtain ⟨y, rfl⟩ := hV; exact HMB.out _ (btr hbr y.below))
      have HG := Lib.hid (fun (V : World) (hV : Below wo.heap.size wo V) => (⟨⟨V, hV⟩, rfl⟩ : ∃ y : Grown wo, V = y.world))
      have HB := bdrew (Below.refl wo.heap.size wo)
      refine ord_take 0 rfl rfl (by kernel_rfl) (by kernel_rfl) (fun _ _ _ h => h) (yieldsIf_rec (by rfl) _ _ rfl _ rfl _ 9 foT HAo.out h9) hS ?_
      simp only [Act.put, List.setIfInBounds_toArray, List.set_cons_zero, List.set_cons_succ]
      refine ord_take 1 rfl rfl (by kernel_rfl) (by kernel_rfl) (fun _ _ _ h => h) (yieldsIf_rec (by rfl) _ _ rfl _ rfl _ 6 matT2 HMo.out rfl) hS ?_
      simp only [Act.put, List.setIfInBounds_toArray, List.set_cons_zero, List.set_cons_succ]
      refine ord_take (v := ?_) 2 rfl rfl (by kernel_rfl) (by kernel_rfl) (fun _ _ _ h => h) (Or.inl ⟨by rfl, ?_⟩) hS ?_
      rotate_left
      · rintro W ⟨y, rfl⟩
        go_simp
        (try with_reducible rfl)
      simp only [Act.put, List.setIfInBounds_toArray, List.set_cons_zero, List.set_cons_succ]
      refine ord_take (v := ?_) 4 rfl rfl (by kernel_rfl) (by kernel_rfl) (fun _ _ _ h => h) (Or.inl ⟨by rfl, ?_⟩) hS ?_
      rotate_left
      · rintro W ⟨y, rfl⟩
        go_simp
        (try with_reducible rfl)
      simp only [Act.put, List.setIfInBounds_toArray, List.set_cons_zero, List.set_cons_succ]
      refine ord_take (v := ?_) 6 rfl rfl (by kernel_rfl) (by kernel_rfl) (fun _ _ _ h => h) (Or.inl ⟨by rfl, ?_⟩) hS ?_
      rotate_left
      · rintro W ⟨y, rfl⟩
        go_simp
        (try with_reducible rfl)
      simp only [Act.put, List.setIfInBounds_toArray, List.set_cons_zero, List.set_cons_succ]
      clear hS
      refine ord_one 3 rfl (by kernel_rfl) rfl ?_
      intro K hK
      go_simp
      refine (HSX.out _).mono ?_; rintro e w' ⟨rfl, rfl⟩
      refine hK.out _ _ (HG.out _ HB) ?_
      clear hK K
      try simp only
      have hS := HG.out _ HB
      clear hS
      refine ord_one 5 rfl (by kernel_rfl) rfl ?_
      intro K hK
      go_simp
      refine (HSY.out _).mono ?_; rintro e w' ⟨rfl, rfl⟩
      refine hK.out _ _ (HG.out _ HB) ?_
      clear hK K
      try simp only
      have hS := HG.out _ HB
      clear hS
      refine ord_one 7 rfl (by kernel_rfl) rfl ?_
      intro K hK
      go_simp
      refine (HOT.out _ (btr hbr HB)).mono ?_; rintro e wn ⟨b8, A3, c3, rfl, hs3⟩
      have Hn := btr HB b8
      refine hK.out _ _ (HG.out _ Hn) ?_
      clear hK K HB b8
      have HB := Hn
      clear Hn
      try simp only
      have hS := HG.out _ HB
      refine ord_take (v := ?_) 8 rfl rfl (by kernel_rfl) (by kernel_rfl) (fun _ _ _ h => h) (Or.inl ⟨by rfl, ?_⟩) hS ?_
      rotate_left
      · rintro W ⟨y, rfl⟩
        go_simp
        (try with_reducible rfl)
      simp only [Act.put, List.setIfInBounds_toArray, List.set_cons_zero, List.set_cons_succ]
      refine ord_take (v := ?_) 9 rfl rfl (by kernel_rfl) (by kernel_rfl) (fun _ _ _ h => h) (Or.inl ⟨by rfl, ?_⟩) hS ?_
      rotate_left
      · rintro W ⟨y, rfl⟩
        go_simp
        (try with_reducible rfl)
      simp only [Act.put, List.setIfInBounds_toArray, List.set_cons_zero, List.set_cons_succ]
      refine ord_take (v := ?_) 10 rfl rfl (by kernel_rfl) (by kernel_rfl) (fun _ _ _ h => h) (Or.inl ⟨by rfl, ?_⟩) hS ?_
      rotate_left
      · rintro W ⟨y, rfl⟩
        go_simp
        (try with_reducible rfl)
      simp only [Act.put, List.setIfInBounds_toArray, List.set_cons_zero, List.set_cons_succ]
      refine ord_take (v := ?_) 11 rfl rfl (by kernel_rfl) (by kernel_rfl) (fun _ _ _ h => h) (Or.inl ⟨by rfl, ?_⟩) hS ?_
      rotate_left
      · rintro W ⟨y, rfl⟩
        go_simp
        (try with_reducible rfl)
      simp only [Act.put, List.setIfInBounds_toArray, List.set_cons_zero, List.set_cons_succ]
      refine ord_take (v := ?_) 12 rfl rfl (by kernel_rfl) (by kernel_rfl) (fun _ _ _ h => h) (Or.inl ⟨by rfl, ?_⟩) hS ?_
      rotate_left
      · rintro W ⟨y, rfl⟩
        go_simp
        (try with_reducible rfl)
      simp only [Act.put, List.setIfInBounds_toArray, List.set_cons_zero, List.set_cons_succ]
      refine ord_take (v := ?_) 13 rfl rfl (by kernel_rfl) (by kernel_rfl) (fun _ _ _ h => h) (Or.inl ⟨by rfl, ?_⟩) hS ?_
      rotate_left
      · rintro W ⟨y, rfl⟩
        go_simp
        (try with_reducible rfl)
      simp only [Act.put, List.setIfInBounds_toArray, List.set_cons_zero, List.set_cons_succ]
      refine ord_take (v := ?_) 14 rfl rfl (by kernel_rfl) (by kernel_rfl) (fun _ _ _ h => h) (Or.inl ⟨by rfl, ?_⟩) hS ?_
      rotate_left
      · rintro W ⟨y, rfl⟩
        go_simp
        (try with_reducible rfl)
      simp only [Act.put, List.setIfInBounds_toArray, List.set_cons_zero, List.set_cons_succ]
      refine ord_take (v := ?_) 15 rfl rfl (by kernel_rfl) (by kernel_rfl) (fun _ _ _ h => h) (Or.inl ⟨by rfl, ?_⟩) hS ?_
      rotate_left
      · rintro W ⟨y, rfl⟩
        go_simp
        (try with_reducible rfl)
      simp only [Act.put, List.setIfInBounds_toArray, List.set_cons_zero, List.set_cons_succ]
      refine ord_take (v := ?_) 16 rfl rfl (by kernel_rfl) (by kernel_rfl) (fun _ _ _ h => h) (Or.inl ⟨by rfl, ?_⟩) hS ?_
      rotate_left
      · rintro W ⟨y, rfl⟩
        go_simp
        (try with_reducible rfl)
      simp only [Act.put, List.setIfInBounds_toArray, List.set_cons_zero, List.set_cons_succ]
      clear hS HG HAo HMo
      refine ⟨by kernel_rfl, ?_⟩
      refine NoPanic.normal ?_
      have hs9 := hs1.below HB
      have Q9 := btr hbr HB
      clear HOT hs1
      go_wp2_with fail
      refine (sameSg_any _ _ _ _ _ _ l _ (by omega) hs3 hs9).mono ?_; rintro e w12 ⟨rfl, q7, rfl⟩
      go_wp2_with fail
      go_ret
      exact ⟨rfl, bdrewN (btr B6 Q9) _⟩
end Go.Proofs.Ytahiffaocakhjaa
