/- StateKeeps: the walk. -/
import Derived.Test.YtaadajadeemndaaKeptK
import Derived.Test.YtaadajadeemndaaKeepsK
import Derived.Test.YtaadajadeemndaaFew
import Derived.Test.YtaadajadeemndaaKnown42
namespace Go.Proofs.Ytaadajadeemndaa
open Go.RowKit Go.BigFrame

set_option maxRecDepth 100000 in
set_option maxHeartbeats 8000000 in
theorem StateKeeps_any (x : St) (P C D : Value) (u v : Int) (w : World) (h : StAt w x P C D) (hr : stReach x) :
    Calls Try.prog 4 #[.agg (stC x P C D).toArray, .int .i64 u, .int .i64 v] w fun e w' => e = .returned (.bool true) ∧ Below w.heap.size w w' := by
  obtain ⟨w0, hw0⟩ : ∃ w0 : World, w0 = w.alloc (.cells (stC x P C D).toArray 34) := ⟨_, rfl⟩
  have hB0 : Below w.heap.size w w0 := by rw [hw0]; exact bal (Below.refl _ _) _
  have hA : BC w0 w.heap.size (stC x P C D) := by rw [hw0]; exact BC.new (stC x P C D) 34 rfl
  have h0 := h.below hB0
  have HFw := Lib.hid fun W (hb : Below w0.heap.size w0 W) => few_any x P C D W (h0.below hb) hr
  clear h hr
  obtain ⟨⟨Ap, cp, rfl, hp, hpc, hpm⟩, hcv, ⟨Ad, cd, rfl, hd, hdc, hdm⟩⟩ := h0
  have HCV := Lib.hid hcv
  obtain ⟨Ac, cc, rfl, -, hcc, hcm⟩ := hcv.sl
  obtain ⟨np, hnp⟩ : ∃ n, n = x.p.length := ⟨_, rfl⟩
  obtain ⟨nc, hnc⟩ : ∃ n, n = x.cl.length := ⟨_, rfl⟩
  obtain ⟨nd, hnd⟩ : ∃ n, n = x.da.length := ⟨_, rfl⟩
  rw [← hnp] at hA hw0 hp hpc HFw ⊢
  rw [← hnc] at hA hw0 hcc HCV HFw ⊢
  rw [← hnd] at hA hw0 hd hdc HFw ⊢
  have HNP := Lib.hid hnp
  have HNC := Lib.hid hnc
  have HND := Lib.hid hnd
  have HA := Lib.hid hA
  have HP := Lib.hid hp
  have HD := Lib.hid hd
  clear hnp hnc hnd hp hd hA hcv
  go_enter Try.func4, Try.ntmps4
  go_upto_region 1 with (fail)
  rw [← hw0]
  clear hw0
  go_wp2_with fail
  refine (known42_any _).mono ?_; rintro e w1 ⟨rfl, G1⟩
  have A1 := HA.out.below G1
  go_wp2_with (first
    | (refine wpList_load_rec rfl _ _ rfl w.heap.size rfl _ 24 stT A1 rfl ?_)
    | fail)
  refine (HFw.out _ G1).mono ?_; rintro e w2 ⟨rfl, hb2⟩
  have G2 := btr G1 hb2
  have A2 := HA.out.below G2
  clear hb2 A1
  cases hfw : fewB x
  · go_wp2_with fail
    go_ret
    exact ⟨rfl, btr hB0 G2⟩
  have HFEW := Lib.hid (fewB_few hfw)
  have hn1 : np ≤ 1000 := by rw [HNP.out]; exact HFEW.out.1
  have hn2 : nc ≤ 1000 := by rw [HNC.out]; exact HFEW.out.2.1
  have hn3 : nd ≤ 1000 := by rw [HND.out]; exact HFEW.out.2.2.2
  clear hfw
  have hone2 : ∀ v ∈ stC x (.slice Ap np cp) (.slice Ac nc cc) (.slice Ad nd cd), v.oneCell' = true := stC_one rfl rfl rfl
  have B2 := G2
  obtain ⟨w3, hw3, A3, b3, Z3⟩ := put_new (W := w2) (vs := stC x (.slice Ap np cp) (.slice Ac nc cc) (.slice Ad nd cd)) rfl
  have B3 := btr B2 b3
  rw [zero_lit] at hw3 Z3
  have HW3 := Lib.hid hw3
  clear hw3
  have A3' := A2.below b3
  have a6 := A3'.c 6 _ rfl
  go_wp2_with (first
    | (refine wpList_load_rec rfl _ _ rfl w.heap.size rfl _ 24 stT A2 rfl ?_)
    | (refine wpList_store_rec rfl _ _ _ rfl (w2.heap.size) (stC x (.slice Ap np cp) (.slice Ac nc cc) (.slice Ad nd cd)) _ rfl rfl 24 stT Z3 rfl rfl hone2 ?_; rw [← HW3.out])
    | fail)
  refine (ownKSg_any Ap np cp x.p ⟨71, 0, 0, 0, 0⟩ _ (HP.out.below B3) HNP.out.symm hn1).mono ?_; rintro e w4 ⟨gp, hgp, rfl, hBp, hb4⟩
  have hgin : w2.heap.size < w3.heap.size := A3.lt
  have B4 := btr B3 hb4
  have in4 := A3.below hb4
  have i6 := in4.nf 6
  have j6 := in4.c 6 _ rfl
  have B5 := bset B4 (p := ⟨w2.heap.size, 6, none⟩) G2.size (.slice (some ⟨gp, 0, none⟩) np (np + 3))
  have in5 := in4.set 6 (.slice (some ⟨gp, 0, none⟩) np (np + 3)) (by show 6 < 24; omega)
  have P5 := hBp.apart1 (show gp ≠ w2.heap.size by omega) 6 (.slice (some ⟨gp, 0, none⟩) np (np + 3))
  obtain ⟨w5, hw5⟩ : ∃ w5, w5 = w4.setCell ⟨w2.heap.size, 6, none⟩ (.slice (some ⟨gp, 0, none⟩) np (np + 3)) := ⟨_, rfl⟩
  rw [← hw5] at B5 in5 P5
  have HW5 := Lib.hid hw5
  have hs5 : w4.heap.size = w5.heap.size := by rw [hw5]; simp [World.setCell]
  have HS5 := Lib.hid hs5
  have a15 := (HA.out.below B5).c 15 _ rfl
  clear hw5 hs5 a6
  go_upto_region 7 with (fail)
  rw [← HW5.out]
  go_wp2_with fail
  refine (ownKInt_any Ad nd cd x.da 71 _ (HD.out.below B5) HND.out.symm hn3).mono ?_; rintro e w6 ⟨gd, hgd, rfl, hBd, hb6⟩
  have B6 := btr B5 hb6
  have in6 := in5.below hb6
  have P6 := P5.below hb6
  have i15 := in6.nf 15
  have j15 := in6.c 15 _ rfl
  have hg5 : w2.heap.size < w5.heap.size := in5.lt
  have hgp5 : gp < w5.heap.size := P5.lt
  have B7 := bset B6 (p := ⟨w2.heap.size, 15, none⟩) G2.size (.slice (some ⟨gd, 0, none⟩) nd (nd + 3))
  have in7 := in6.set 15 (.slice (some ⟨gd, 0, none⟩) nd (nd + 3)) (by show 15 < 24; omega)
  have P7 := P6.apart1 (show gp ≠ w2.heap.size by omega) 15 (.slice (some ⟨gd, 0, none⟩) nd (nd + 3))
  have D7 := hBd.apart1 (show gd ≠ w2.heap.size by omega) 15 (.slice (some ⟨gd, 0, none⟩) nd (nd + 3))
  obtain ⟨w7, hw7⟩ : ∃ w7, w7 = w6.setCell ⟨w2.heap.size, 15, none⟩ (.slice (some ⟨gd, 0, none⟩) nd (nd + 3)) := ⟨_, rfl⟩
  rw [← hw7] at B7 in7 P7 D7
  have HW7 := Lib.hid hw7
  have in7' : BC w7 w2.heap.size (stC x (.slice (some ⟨gp, 0, none⟩) np (np + 3)) (.slice Ac nc cc) (.slice (some ⟨gd, 0, none⟩) nd (nd + 3))) := in7
  have S7 : StAt w7 x (.slice (some ⟨gp, 0, none⟩) np (np + 3)) (.slice Ac nc cc) (.slice (some ⟨gd, 0, none⟩) nd (nd + 3)) := by
    refine ⟨⟨some ⟨gp, 0, none⟩, np + 3, by rw [← HNP.out], ?_, by rw [← HNP.out]; omega, by omega⟩, HCV.out.below B7, ⟨some ⟨gd, 0, none⟩, nd + 3, by rw [← HND.out], ?_, by rw [← HND.out]; omega, by omega⟩⟩
    · rw [← HNP.out]; exact P7.sl_front ⟨_, sgs_app _ _⟩ (by rw [sgs_len, HNP.out])
    · rw [← HND.out]; exact D7.sl_front ⟨ints [71, 71, 71], by simp [ints]⟩ (by simp [ints, HND.out])
  clear hw7 a15 i6 j6 in6 P6 in5 P5
  obtain ⟨Y, hY⟩ : ∃ Y, toS (fun a b => onL x.p ⟨2, a, b, 0, 0⟩) x u v true = Y := ⟨_, rfl⟩
  have HLn := Lib.hid (stLine_any x _ _ _ u v true Y w7 S7 hY)
  have HS7 := Lib.hid S7
  have HY := Lib.hid hY
  clear hY
  go_upto_region 8 with (fail)
  rw [← HW7.out]
  clear i15 j15
  go_wp2_with (first
    | (refine wpList_load_rec rfl _ _ rfl w2.heap.size rfl _ 24 stT in7' rfl ?_)
    | fail)
  refine HLn.out.mono ?_; rintro e w8 ⟨P8, C8, D8, rfl, ho8, hb8⟩
  obtain ⟨Pa, ca, rfl⟩ := own_form ho8.p
  obtain ⟨Ca, ka, rfl, -⟩ := ho8.c.v
  obtain ⟨Da, da, rfl⟩ := own_form ho8.d
  have B8 := btr B7 hb8
  have in8 := in7'.below hb8
  have hone8 := ho8.at.one
  obtain ⟨w9, hw9, A9, b9, Z9⟩ := put_new (W := w8) (vs := stC Y.1 (.slice Pa Y.1.p.length ca) (.slice Ca Y.1.cl.length ka) (.slice Da Y.1.da.length da)) rfl
  have B9 := btr B8 b9
  rw [zero_lit] at hw9 Z9
  have HW9 := Lib.hid hw9
  clear hw9
  have in9 := in8.below b9
  have S9 := HS7.out.below (btr hb8 b9)
  obtain ⟨Z, hZ⟩ : ∃ Z, clipS x 0 = Z := ⟨_, rfl⟩
  have HCl := Lib.hid (stClip_any x _ _ _ 0 Z w9 S9 hZ)
  have HZ := Lib.hid hZ
  clear hZ S9
  go_wp2_with (first
    | (refine wpList_store_rec rfl _ _ _ rfl (w8.heap.size) (stC Y.1 (.slice Pa Y.1.p.length ca) (.slice Ca Y.1.cl.length ka) (.slice Da Y.1.da.length da)) _ rfl rfl 24 stT Z9 rfl rfl hone8 ?_; rw [← HW9.out])
    | (refine wpList_load_rec rfl _ _ rfl w2.heap.size rfl _ 24 stT in9 rfl ?_)
    | fail)
  refine HCl.out.mono ?_; rintro e w10 ⟨P10, C10, D10, rfl, ho10, hb10⟩
  obtain ⟨Pb, cb, rfl⟩ := own_form ho10.p
  obtain ⟨Cb, kb, rfl, hkb, hkm, -⟩ := ho10.c.v
  obtain ⟨Db, db, rfl⟩ := own_form ho10.d
  have B10 := btr B9 hb10
  have in10 := in9.below hb10
  have hone10 := ho10.at.one
  obtain ⟨w11, hw11, A11, b11, Z11⟩ := put_new (W := w10) (vs := stC Z.1 (.slice Pb Z.1.p.length cb) (.slice Cb Z.1.cl.length kb) (.slice Db Z.1.da.length db)) rfl
  have B11 := btr B10 b11
  rw [zero_lit] at hw11 Z11
  have HW11 := Lib.hid hw11
  clear hw11
  have in11 := in10.below b11
  have S11 := HS7.out.below (btr (btr hb8 b9) (btr hb10 b11))
  obtain ⟨V, hV⟩ : ∃ V, fillS x 1 = V := ⟨_, rfl⟩
  have HFl := Lib.hid (stFill_any x _ _ _ 1 V w11 S11 hV)
  clear hV S11
  go_wp2_with (first
    | (refine wpList_store_rec rfl _ _ _ rfl (w10.heap.size) (stC Z.1 (.slice Pb Z.1.p.length cb) (.slice Cb Z.1.cl.length kb) (.slice Db Z.1.da.length db)) _ rfl rfl 24 stT Z11 rfl rfl hone10 ?_; rw [← HW11.out])
    | (refine wpList_load_rec rfl _ _ rfl w2.heap.size rfl _ 24 stT in11 rfl ?_)
    | fail)
  refine HFl.out.mono ?_; rintro e w12 ⟨P12, C12, rfl, ho12, hb12⟩
  obtain ⟨Pc, cq, rfl⟩ := own_form ho12.p
  obtain ⟨Cc, kc, rfl, -⟩ := ho12.c.v
  have B12 := btr B11 hb12
  have hone12 : ∀ v ∈ itC V.1 (.slice Pc V.1.p.length cq) (.slice Cc V.1.cl.length kc), v.oneCell' = true := itC_one rfl rfl
  obtain ⟨w13, hw13, A13, b13, Z13⟩ := put_newI (W := w12) (vs := itC V.1 (.slice Pc V.1.p.length cq) (.slice Cc V.1.cl.length kc)) rfl
  have B13 := btr B12 b13
  rw [zeroI_lit] at hw13 Z13
  have HW13 := Lib.hid hw13
  clear hw13
  have K13 : KS w7 w9.heap.size w11.heap.size w8.heap.size w10.heap.size w12.heap.size _ _ _ _ _ _ _ _ _ _ _ w13 :=
    ⟨btr hb8 (btr b9 (btr hb10 (btr b11 (btr hb12 b13)))), A9.below (btr hb10 (btr b11 (btr hb12 b13))), A11.below (btr hb12 b13), A13, (RowI.sg ho8.p).below (btr b9 (btr hb10 (btr b11 (btr hb12 b13)))), (RowI.ints ho10.d).below (btr b11 (btr hb12 b13)), (RowI.sg ho12.p).below b13,
      ho10.last.below (Nat.le_refl _) (btr b11 (btr hb12 b13)), fun k hk => ((RowI.sg ho8.p).lt hk).2, fun k hk => ((RowI.ints ho10.d).lt hk).2, fun k hk => ((RowI.sg ho12.p).lt hk).2, hb8.size, A9.lt, hb10.size, A11.lt, hb12.size⟩
  have na1 : Y.1.p.length ≤ 9223372036854775807 := Nat.le_trans (own_cap ho8.p) (own_max ho8.p)
  have nd1 : Z.1.da.length ≤ 9223372036854775807 := Nat.le_trans (own_cap ho10.d) (own_max ho10.d)
  have nc1 : V.1.p.length ≤ 9223372036854775807 := Nat.le_trans (own_cap ho12.p) (own_max ho12.p)
  have nb1 : Z.1.cl.length ≤ 9223372036854775807 := Nat.le_trans hkb hkm
  have HK13 := Lib.hid K13
  have q8 := K13.a8.c 6 _ rfl
  clear K13 ho8 ho10 ho12 hb8 b9 hb10 b11 hb12 b13 hkb hkm
  go_wp2_with (first
    | (refine wpList_store_rec rfl _ _ _ rfl (w12.heap.size) (itC V.1 (.slice Pc V.1.p.length cq) (.slice Cc V.1.cl.length kc)) _ rfl rfl 21 itT Z13 rfl rfl hone12 ?_; rw [← HW13.out])
    | fail)
  obtain ⟨KK, hKK⟩ : ∃ KK : World → Prop, KK = KS w7 w9.heap.size w11.heap.size w8.heap.size w10.heap.size w12.heap.size (stC Y.1 (.slice Pa Y.1.p.length ca) (.slice Ca Y.1.cl.length ka) (.slice Da Y.1.da.length da)) (stC Z.1 (.slice Pb Z.1.p.length cb) (.slice Cb Z.1.cl.length kb) (.slice Db Z.1.da.length db)) (itC V.1 (.slice Pc V.1.p.length cq) (.slice Cc V.1.cl.length kc)) (.slice Pa Y.1.p.length ca) (.slice Db Z.1.da.length db) (.slice Pc V.1.p.length cq) (.slice Cb Z.1.cl.length kb) Y.1.p.length Z.1.da.length V.1.p.length Z.1.cl.length := ⟨_, rfl⟩
  have HE := Lib.hid hKK
  have HK := Lib.hid (show KK w13 by rw [hKK]; exact HK13.out)
  clear hKK HK13
  go_loopw [54] (fun sx wr => ∃ m : Nat, m ≤ Y.1.p.length ∧ sx = .int .i64 (m : Int) ∧ Hid (KK wr)) (fun sx _ => Y.1.p.length - (intOf sx).toNat)
  case atStart => exact ⟨0, Nat.zero_le _, by go_num, HK⟩
  obtain ⟨wa, rfl⟩ : ∃ wo : World, wo = wr := ⟨_, rfl⟩
  obtain ⟨m, hm, rfl, HK1⟩ := hrel
  have K := HK1.out
  rw [HE.out] at K
  have q := K.a8.c 6 _ rfl
  by_cases hlt : m < Y.1.p.length
  · obtain ⟨g, hg, -, hgl, -⟩ := K.ra.addr (by omega)
    rw [hg] at q
    obtain ⟨z, hz, hf, hw⟩ := K.sa (c := ca) (by rw [hg]) (m * 5 + 1) (by omega)
    have hw' := Lib.hid (fun z' => show KK (wa.setCell ⟨g, m * 5 + 1, none⟩ (.int .i64 z')) by rw [HE.out]; exact hw z')
    clear K hw hg
    go_wp2_with fail
    go_roundw
    case rel => exact ⟨m + 1, by omega, by go_num, Lib.hid (hw'.out _)⟩
    case measure => simp [intOf]; omega
  obtain rfl : m = Y.1.p.length := by omega
  clear hlt hm
  clear K q
  have K := HK1.out
  rw [HE.out] at K
  have q := K.a10.c 15 _ rfl
  clear K
  have HK := HK1
  go_wp2_with fail
  go_loopw [70] (fun sx wr => ∃ m : Nat, m ≤ Z.1.da.length ∧ sx = .int .i64 (m : Int) ∧ Hid (KK wr)) (fun sx _ => Z.1.da.length - (intOf sx).toNat)
  case atStart => exact ⟨0, Nat.zero_le _, by go_num, HK⟩
  obtain ⟨wb, rfl⟩ : ∃ wo : World, wo = wr := ⟨_, rfl⟩
  obtain ⟨m, hm, rfl, HK2⟩ := hrel
  have K := HK2.out
  rw [HE.out] at K
  have q := K.a10.c 15 _ rfl
  by_cases hlt : m < Z.1.da.length
  · obtain ⟨g, hg, -, hgl, -⟩ := K.rb.addr (by omega)
    rw [hg] at q
    obtain ⟨z, hz, hf, hw⟩ := K.sb (c := db) (by rw [hg]) (m) (by omega)
    have hw' := Lib.hid (fun z' => show KK (wb.setCell ⟨g, m, none⟩ (.int .i64 z')) by rw [HE.out]; exact hw z')
    clear K hw hg
    go_wp2_with fail
    go_roundw
    case rel => exact ⟨m + 1, by omega, by go_num, Lib.hid (hw'.out _)⟩
    case measure => simp [intOf]; omega
  obtain rfl : m = Z.1.da.length := by omega
  clear hlt hm
  clear K q
  have K := HK2.out
  rw [HE.out] at K
  have q := K.a12.c 1 _ rfl
  clear K
  have HK := HK2
  go_wp2_with fail
  go_loopw [84] (fun sx wr => ∃ m : Nat, m ≤ V.1.p.length ∧ sx = .int .i64 (m : Int) ∧ Hid (KK wr)) (fun sx _ => V.1.p.length - (intOf sx).toNat)
  case atStart => exact ⟨0, Nat.zero_le _, by go_num, HK⟩
  obtain ⟨wc, rfl⟩ : ∃ wo : World, wo = wr := ⟨_, rfl⟩
  obtain ⟨m, hm, rfl, HK3⟩ := hrel
  have K := HK3.out
  rw [HE.out] at K
  have q := K.a12.c 1 _ rfl
  by_cases hlt : m < V.1.p.length
  · obtain ⟨g, hg, -, hgl, -⟩ := K.rc.addr (by omega)
    rw [hg] at q
    obtain ⟨z, hz, hf, hw⟩ := K.sc (c := cq) (by rw [hg]) (m * 5 + 2) (by omega)
    have hw' := Lib.hid (fun z' => show KK (wc.setCell ⟨g, m * 5 + 2, none⟩ (.int .i64 z')) by rw [HE.out]; exact hw z')
    clear K hw hg
    go_wp2_with fail
    go_roundw
    case rel => exact ⟨m + 1, by omega, by go_num, Lib.hid (hw'.out _)⟩
    case measure => simp [intOf]; omega
  obtain rfl : m = V.1.p.length := by omega
  clear hlt hm
  clear K q
  have K := HK3.out
  rw [HE.out] at K
  have q := K.a10.c 7 _ rfl
  have hbc := K.b
  have HLP := Lib.hid K.lp
  have ho9 : w7.heap.size ≤ w9.heap.size := by have := K.o1; have := K.o2; omega
  clear K HK3
  by_cases e1 : Y.2 = 0
  case neg =>
    clear HK1 HK2 HK HE
    have a6 := (HA.out.below (btr B7 hbc)).c 6 _ rfl
    have a15 := (HA.out.below (btr B7 hbc)).c 15 _ rfl
    have i6 := (in7'.below hbc).c 6 _ rfl
    have i15 := (in7'.below hbc).c 15 _ rfl
    have Y6 := P7.below hbc
    have Y15 := D7.below hbc
    go_wp2_with fail
    refine (keptSg_any Ap np cp gp x.p ⟨71, 0, 0, 0, 0⟩ _ Y6 (HP.out.below (btr B7 hbc)) HNP.out.symm hn1).mono ?_; rintro e wk ⟨rfl, hk⟩
    have hkb := btr hbc hk
    have a15 := (HA.out.below (btr B7 hkb)).c 15 _ rfl
    have i15 := (in7'.below hkb).c 15 _ rfl
    go_wp2_with fail
    refine (keptInt_any Ad nd cd gd x.da 71 _ (Y15.below hk) (HD.out.below (btr B7 hkb)) HND.out.symm hn3).mono ?_; rintro e wl ⟨rfl, hl⟩
    go_wp2_with fail
    go_ret
    exact ⟨rfl, btr hB0 (btr B7 (btr hkb hl))⟩
  by_cases e2 : Z.2 = 0
  case neg =>
    clear HK1 HK2 HK HE
    have a6 := (HA.out.below (btr B7 hbc)).c 6 _ rfl
    have a15 := (HA.out.below (btr B7 hbc)).c 15 _ rfl
    have i6 := (in7'.below hbc).c 6 _ rfl
    have i15 := (in7'.below hbc).c 15 _ rfl
    have Y6 := P7.below hbc
    have Y15 := D7.below hbc
    go_wp2_with fail
    refine (keptSg_any Ap np cp gp x.p ⟨71, 0, 0, 0, 0⟩ _ Y6 (HP.out.below (btr B7 hbc)) HNP.out.symm hn1).mono ?_; rintro e wk ⟨rfl, hk⟩
    have hkb := btr hbc hk
    have a15 := (HA.out.below (btr B7 hkb)).c 15 _ rfl
    have i15 := (in7'.below hkb).c 15 _ rfl
    go_wp2_with fail
    refine (keptInt_any Ad nd cd gd x.da 71 _ (Y15.below hk) (HD.out.below (btr B7 hkb)) HND.out.symm hn3).mono ?_; rintro e wl ⟨rfl, hl⟩
    go_wp2_with fail
    go_ret
    exact ⟨rfl, btr hB0 (btr B7 (btr hkb hl))⟩
  by_cases e3 : V.2 = 0
  case neg =>
    clear HK1 HK2 HK HE
    have a6 := (HA.out.below (btr B7 hbc)).c 6 _ rfl
    have a15 := (HA.out.below (btr B7 hbc)).c 15 _ rfl
    have i6 := (in7'.below hbc).c 6 _ rfl
    have i15 := (in7'.below hbc).c 15 _ rfl
    have Y6 := P7.below hbc
    have Y15 := D7.below hbc
    go_wp2_with fail
    refine (keptSg_any Ap np cp gp x.p ⟨71, 0, 0, 0, 0⟩ _ Y6 (HP.out.below (btr B7 hbc)) HNP.out.symm hn1).mono ?_; rintro e wk ⟨rfl, hk⟩
    have hkb := btr hbc hk
    have a15 := (HA.out.below (btr B7 hkb)).c 15 _ rfl
    have i15 := (in7'.below hkb).c 15 _ rfl
    go_wp2_with fail
    refine (keptInt_any Ad nd cd gd x.da 71 _ (Y15.below hk) (HD.out.below (btr B7 hkb)) HND.out.symm hn3).mono ?_; rintro e wl ⟨rfl, hl⟩
    go_wp2_with fail
    go_ret
    exact ⟨rfl, btr hB0 (btr B7 (btr hkb hl))⟩
  by_cases e4 : 0 < Z.1.cl.length
  case neg =>
    clear HK1 HK2 HK HE
    have a6 := (HA.out.below (btr B7 hbc)).c 6 _ rfl
    have a15 := (HA.out.below (btr B7 hbc)).c 15 _ rfl
    have i6 := (in7'.below hbc).c 6 _ rfl
    have i15 := (in7'.below hbc).c 15 _ rfl
    have Y6 := P7.below hbc
    have Y15 := D7.below hbc
    go_wp2_with fail
    refine (keptSg_any Ap np cp gp x.p ⟨71, 0, 0, 0, 0⟩ _ Y6 (HP.out.below (btr B7 hbc)) HNP.out.symm hn1).mono ?_; rintro e wk ⟨rfl, hk⟩
    have hkb := btr hbc hk
    have a15 := (HA.out.below (btr B7 hkb)).c 15 _ rfl
    have i15 := (in7'.below hkb).c 15 _ rfl
    go_wp2_with fail
    refine (keptInt_any Ad nd cd gd x.da 71 _ (Y15.below hk) (HD.out.below (btr B7 hkb)) HND.out.symm hn3).mono ?_; rintro e wl ⟨rfl, hl⟩
    go_wp2_with fail
    go_ret
    exact ⟨rfl, btr hB0 (btr B7 (btr hkb hl))⟩
  rcases HLP.out with h0 | ⟨gc, cc, A, nl, cl, h1, h2, h3, h4, h5, h6, h7, h8⟩
  · omega
  injection h1 with h1 _ h1c
  rw [h1] at q
  have HKL := Lib.hid (show KL w7 A nl cl wc from ⟨hbc, h7.mono ho9⟩)
  clear h1 h1c h2 h3 h4 h7 h8 HLP ho9
  go_wp2_with fail
  go_loopw [124] (fun sx wr => ∃ m : Nat, m ≤ nl ∧ sx = .int .i64 (m : Int) ∧ Hid (KL w7 A nl cl wr)) (fun sx _ => nl - (intOf sx).toNat)
  case atStart => exact ⟨0, Nat.zero_le _, by go_num, HKL⟩
  obtain ⟨wd, rfl⟩ : ∃ wo : World, wo = wr := ⟨_, rfl⟩
  obtain ⟨m, hm, rfl, HKd⟩ := hrel
  by_cases hlt : m < nl
  · obtain ⟨g, hg, -, hgl, -⟩ := HKd.out.r.addr (by omega)
    obtain ⟨z, hz, hf, hw⟩ := HKd.out.s hg (m * 5 + 1) (by omega)
    have hw' := Lib.hid hw
    subst hg
    clear hw
    go_wp2_with fail
    go_roundw
    case rel => exact ⟨m + 1, by omega, by go_num, Lib.hid (hw'.out _)⟩
    case measure => simp [intOf]; omega
  obtain rfl : m = nl := by omega
  clear hlt hm q h5
  have hbd := HKd.out.b
  clear HK1 HK2 HK HE
  have a6 := (HA.out.below (btr B7 hbd)).c 6 _ rfl
  have a15 := (HA.out.below (btr B7 hbd)).c 15 _ rfl
  have i6 := (in7'.below hbd).c 6 _ rfl
  have i15 := (in7'.below hbd).c 15 _ rfl
  have Y6 := P7.below hbd
  have Y15 := D7.below hbd
  go_wp2_with fail
  refine (keptSg_any Ap np cp gp x.p ⟨71, 0, 0, 0, 0⟩ _ Y6 (HP.out.below (btr B7 hbd)) HNP.out.symm hn1).mono ?_; rintro e wk ⟨rfl, hk⟩
  have hkb := btr hbd hk
  have a15 := (HA.out.below (btr B7 hkb)).c 15 _ rfl
  have i15 := (in7'.below hkb).c 15 _ rfl
  go_wp2_with fail
  refine (keptInt_any Ad nd cd gd x.da 71 _ (Y15.below hk) (HD.out.below (btr B7 hkb)) HND.out.symm hn3).mono ?_; rintro e wl ⟨rfl, hl⟩
  go_wp2_with fail
  go_ret
  exact ⟨rfl, btr hB0 (btr B7 (btr hkb hl))⟩
end Go.Proofs.Ytaadajadeemndaa
