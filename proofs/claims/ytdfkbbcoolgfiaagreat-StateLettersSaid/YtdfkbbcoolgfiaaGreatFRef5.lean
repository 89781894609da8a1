/- tympanref40: Outline. -/
import Derived.Test.YtdfkbbcoolgfiaaGreatMFb
import Derived.Test.YtdfkbbcoolgfiaaGreatMF3
import Derived.Test.YtdfkbbcoolgfiaaGreatMRA
namespace Go.Proofs.YtdfkbbcoolgfiaaGreat
open Go.RowKit Go.Maps Go.BigFrame

theorem runF_ok (F : Fo) (c : Nat) : mayB (runF F c).1.1 = true ∧ 0 ≤ (runF F c).1.2 ∧ (runF F c).1.2 ≤ 8191 := by
  unfold runF
  split
  · exact ⟨rfl, Int.le_refl 0, by show (0 : Int) ≤ 8191; decide⟩
  · split
    · exact run_ok _
    · exact ⟨rfl, Int.le_refl 0, by show (0 : Int) ≤ 8191; decide⟩
theorem pathF_len (F : Fo) (m : Mt) (x y : Int) (c : Nat) : (pathF F m x y c).1.length ≤ 300 := by
  unfold pathF
  split
  · split
    · simp
    · exact Nat.le_trans (placeF_len F m x y _) (may_len (runF_ok F c).1)
  · simp
theorem aim_two {m : Mt} {u v : Int} (hm : mtB m = true) (hu : fixB u = true) (hv : fixB v = true) : (aimM m u v).2.2 = 0 ∨ (aimM m u v).2.2 = 2 := by
  unfold aimM
  rw [hm, hu, hv]
  simp only [Bool.and_self, if_true]
  unfold nearP
  split
  · exact .inr rfl
  · exact .inl rfl
theorem outS_path {F : Fo} {m : Mt} {l : List Sg} {x y : Int} {c : Nat} {s : List Nat} {Pp J : List Sg} {ep je dx dy ae z : Int} (hq : fairF F m x y = true) (hp : pathF F m x y c = (Pp, ep)) (hj : joinL l Pp = (J, je))
    (hz : (runF F c).1.2 + (match s with | [] => 0 | d :: _ => kernF F c d) = z) (ha : aimM F.m (z * 65536) 0 = (dx, dy, ae)) :
    outS F m l x y (c :: s) = if ep ≠ 0 then (([], 0, 0), ep) else if je ≠ 0 then (([], 0, 0), je) else if ae ≠ 0 then (([], 0, 0), ae)
      else if (fixB (x + dx) && fixB (y + dy)) = false then (([], 0, 0), 2) else outS F m J (x + dx) (y + dy) s := by
  unfold pathF at hp
  rw [if_pos hq] at hp
  by_cases he : (runF F c).2 = 0
  · rw [if_neg (by simpa using he)] at hp
    rw [outS_cons (L := (runF F c).1.1) (wd := (runF F c).1.2) (er := (runF F c).2) rfl hp hj hz ha, if_neg (by simpa using he)]
  · rw [if_pos he] at hp
    cases hp
    rw [outS, if_pos he, if_pos he]
set_option maxRecDepth 100000 in
set_option maxHeartbeats 8000000 in
theorem rOutline_core (F : Fo) (C : List Value) (m : Mt) (x y : Int) (s : ByteArray) (R : (List Sg × Int × Int) × Int) (w : World) (hsz : s.size ≤ 1000000) (h : FoAt w F C) (hR : outF F m x y (bl s) = R) :
    Calls Tryz.prog 53 #[.agg C.toArray, mtv m, .int .i64 x, .int .i64 y, .string s] w fun e w' => OutAns w R e w' := by
  have HO := Lib.hid fun W (hb : Below w.heap.size w W) => rFair40_any F C m x y W (h.below hb)
  have HPa := Lib.hid fun x y c R' W (hc : c < 256) (hb : Below w.heap.size w W) => rPath_any F C m x y c R' W hc (h.below hb)
  have HWi := Lib.hid fun c W (hc : c < 256) (hb : Below w.heap.size w W) => rWide_any F C c W hc (h.below hb)
  have HK := Lib.hid fun a b W (ha : a < 256) (hb : b < 256) (hq : Below w.heap.size w W) => rKern_any F C a b W ha hb (h.below hq)
  have HAi := Lib.hid fun u v W => rAim_any F.m u v W
  obtain ⟨ok, A, B, E, ca, cb, ce, rfl, h1, h2, h3⟩ := h
  rw [vm m]
  obtain ⟨w0, hw0⟩ : ∃ w0 : World, w0 = (w.alloc (.cells (foC F.m (.slice A F.names.length ca) (.slice B F.lets.length cb) (.slice E F.kern.length ce)).toArray 56)).alloc (.cells (mtC m).toArray 23) := ⟨_, rfl⟩
  have hB0 : Below w.heap.size w w0 := by rw [hw0]; exact bal (bal (Below.refl _ _) _) _
  have hA : BC w0 w.heap.size (foC F.m (.slice A F.names.length ca) (.slice B F.lets.length cb) (.slice E F.kern.length ce)) := by rw [hw0]; exact (BC.new _ 56 rfl).below (bal (Below.refl _ _) _)
  have hM : BC w0 (w.heap.size + 1) (mtC m) := by rw [hw0]; exact BC.new (w := w.alloc _) (mtC m) 23 (by simp)
  have HR := Lib.hid hR
  have HR2 : Hid (R = if fairF F m x y then outS F m [] x y (bl s) else (([], 0, 0), 1)) := Lib.hid (by rw [← HR.out]; rfl)
  simp only [vm] at HO HPa HAi
  have hss : IntKind.i64.wrap (s.size : Int) = s.size := IntWalk.i64_in _ (by omega)
  obtain ⟨n, hn⟩ : ∃ n, s.size = n := ⟨_, rfl⟩
  have HNS := Lib.hid hn
  clear hR HR h1 h2 h3 ok hn
  go_enter Tryz.func53, Tryz.ntmps53
  go_upto_region 1 with (fail)
  rw [← hw0]
  clear hw0
  go_wp2_with (first
    | (refine wpList_load_rec rfl _ _ rfl w.heap.size rfl _ 9 foT hA rfl ?_)
    | (refine wpList_load_rec rfl _ _ rfl (w.heap.size + 1) rfl _ 6 matT2 hM rfl ?_)
    | fail)
  refine (HO.out _ hB0).mono ?_; rintro e w2 ⟨rfl, hb1⟩
  have B2 := btr hB0 hb1
  have hA2 := hA.below hb1
  have hM2 := hM.below hb1
  clear hA hM hb1 HO hB0
  cases hq : fairF F m x y
  · have HE := Lib.hid (show R = (([], 0, 0), 1) by rw [HR2.out, hq]; rfl)
    clear HR2 hq
    go_wp2
    (try simp only [Exit.inBlock, Exit.then])
    refine bodyPost_ret (results_tmp4 rfl _ _ _) rfl ?_
    unfold OutAns
    rw [HE.out]
    exact ⟨B2, none, 0, rfl, Sl.nil_, Nat.le_refl _, fun h => absurd h (Nat.lt_irrefl _), Nat.zero_le _⟩
  rw [hq, if_pos rfl] at HR2
  have hq4 : ((openB F = true ∧ mtB m = true) ∧ fixB x = true) ∧ fixB y = true := by unfold fairF at hq; simp only [Bool.and_eq_true] at hq; exact hq
  have HFX := Lib.hid hq4.2
  have HFY := Lib.hid hq4.1.2
  have HOB := Lib.hid hq4.1.1.1
  have HMM := Lib.hid hq4.1.1.2
  have HMF := Lib.hid (show mtB F.m = true by have := hq4.1.1.1; rw [openB_eq] at this; simp only [Bool.and_eq_true] at this; exact this.1.1.1.1.1)
  have HKB := Lib.hid (kern_bd hq4.1.1.1)
  clear hq hq4
  go_wp2_with fail
  go_loopw [2, 3, 14, 15] (fun xv yv lv i wr => ∃ k A' c' Lk xk yk n', k ≤ n ∧ xv = .int .i64 xk ∧ yv = .int .i64 yk ∧ lv = .slice A' n' c' ∧ i = .int .i64 (k : Int) ∧ Below w2.heap.size w2 wr ∧
    Hid (R = outS F m Lk xk yk ((bl s).drop k)) ∧ Sl wr 5 A' n' (sgs Lk) ∧ n' ≤ c' ∧ n' ≤ 300 ∧ Hid (fixB xk = true) ∧ Hid (fixB yk = true) ∧ FreshA w.heap.size A' n' ∧ c' ≤ 9223372036854775807) (fun _ _ _ i _ => n - (intOf i).toNat)
  case atStart => exact ⟨0, none, 0, [], x, y, 0, by omega, rfl, rfl, rfl, rfl, Below.refl _ _, Lib.hid (by rw [HR2.out]; rfl), Sl.nil_, Nat.le_refl _, by omega, HFY, HFX, fun h => absurd h (Nat.lt_irrefl _), Nat.zero_le _⟩
  case round =>
    obtain ⟨wo, rfl⟩ : ∃ wo : World, wo = wr := ⟨_, rfl⟩
    obtain ⟨k, A1, c1, Lk, xk, yk, n1, hk, rfl, rfl, rfl, rfl, hbr, hal, hs1, hnc1, hn1, hfx, hfy, hfr1, hcx1⟩ := hrel
    by_cases hlt : k < n
    · have hks : k < s.size := by rw [HNS.out]; exact hlt
      have hdrop := bl_dropF hks
      have hby := fun W => run_byt (t := 9) (i := (k : Int)) rfl Tryz.underlying9 hks W
      have hcb := byt_lt s k
      obtain ⟨c, hc⟩ : ∃ c, byt s k = c := ⟨_, rfl⟩
      rw [hc] at hdrop hby hcb
      have hcc := Lib.hid hc
      have hal2 := Lib.hid (hal.out.trans (by rw [hdrop]))
      clear hdrop hc hal
      obtain ⟨z, hz⟩ : ∃ z, (runF F c).1.2 + (match (bl s).drop (k + 1) with | [] => 0 | d :: _ => kernF F c d) = z := ⟨_, rfl⟩
      obtain ⟨⟨dx, dy, ae⟩, ha⟩ : ∃ p, aimM F.m (z * 65536) 0 = p := ⟨_, rfl⟩
      obtain ⟨⟨Pp, ep⟩, hP⟩ : ∃ p, pathF F m xk yk c = p := ⟨_, rfl⟩
      obtain ⟨⟨J, je⟩, hJ⟩ : ∃ p, joinL Lk Pp = p := ⟨_, rfl⟩
      have HC := Lib.hid (hal2.out.trans (outS_path (by unfold fairF; rw [HOB.out, HMM.out, hfx.out, hfy.out]; rfl) hP hJ hz ha))
      have hPl : Pp.length ≤ 300 := by have := pathF_len F m xk yk c; rw [hP] at this; exact this
      have hJl : J.length ≤ 300 := by have := joinL_len Lk Pp; rw [hJ] at this; exact this
      have hwb := (runF_ok F c).2
      have HWD := Lib.hid (show wideF F c = ((runF F c).1.2, (runF F c).2) by unfold wideF; rw [HOB.out]; rfl)
      have HWc := Lib.hid fun W (hb : Below w.heap.size w W) => HWi.out c W hcb hb
      rw [HWD.out] at HWc
      simp only at HWc
      obtain ⟨wd, hwd⟩ : ∃ v, (runF F c).1.2 = v := ⟨_, rfl⟩
      obtain ⟨er, her⟩ : ∃ v, (runF F c).2 = v := ⟨_, rfl⟩
      rw [hwd] at hz hwb HWc
      rw [her] at HWc
      have HZ := Lib.hid hz
      have HA := Lib.hid ha
      have hzb : -16382 ≤ z ∧ z ≤ 16382 := by
        have h0 := HKB.out c
        rw [← hz]
        split
        · omega
        · rename_i d _ _
          have := h0 d; omega
      have HPC := Lib.hid (HPa.out xk yk c (Pp, ep) wo.drew hcb (btr B2 (btr hbr (bdrew (Below.refl _ _)))) hP)
      simp only at HPC
      obtain ⟨np, hnp⟩ : ∃ n, n = Pp.length := ⟨_, rfl⟩
      obtain ⟨nj, hnj⟩ : ∃ n, n = J.length := ⟨_, rfl⟩
      have HJC := Lib.hid fun W A4 c4 (hb : Below wo.heap.size wo W) (h4 : Sl W 5 A4 np (sgs Pp)) => ref_Join_any A1 A4 n1 c1 np c4 Lk Pp (J, je) W (by omega) (by rw [hnp]; omega) hnc1 (hs1.below hb) h4 hJ
      simp only at HJC
      rw [← hnj] at HJC hJl
      rw [← hnp] at HPC hPl
      clear hz ha hP hJ hal2 hnp hnj hwd her HWD
      have HAo := Lib.hid fun (W : World) (hW : ∃ y : Grown wo, W = y.world) => (show BC W w.heap.size _ by obtain ⟨y, rfl⟩ := hW; exact hA2.below (btr hbr y.below))
      have HMo := Lib.hid fun (W : World) (hW : ∃ y : Grown wo, W = y.world) => (show BC W (w.heap.size + 1) _ by obtain ⟨y, rfl⟩ := hW; exact hM2.below (btr hbr y.below))
      go_upto_region 7 with (fail)
      refine wp_region_ord (fun W => ∃ y : Grown wo, W = y.world) [] 13 (by kernel_rfl) (by kernel_rfl) ⟨⟨_, bdrew (Below.refl _ _)⟩, rfl⟩ ?_
      intro hS
      refine ord_take 0 rfl rfl (by kernel_rfl) (by kernel_rfl) (fun _ _ _ h => h) (yieldsIf_rec (by rfl) _ _ rfl _ rfl _ 9 foT HAo.out rfl) hS ?_
      simp only [Act.put, List.setIfInBounds_toArray, List.set_cons_zero, List.set_cons_succ]
      refine ord_take 1 rfl rfl (by kernel_rfl) (by kernel_rfl) (fun _ _ _ h => h) (yieldsIf_rec (by rfl) _ _ rfl _ rfl _ 6 matT2 HMo.out rfl) hS ?_
      simp only [Act.put, List.setIfInBounds_toArray, List.set_cons_zero, List.set_cons_succ]
      refine ord_take (v := ?_) 2 rfl rfl (by kernel_rfl) (by kernel_rfl) (fun _ _ _ h => h) (Or.inl ⟨by rfl, ?_⟩) hS ?_
      rotate_left
      · rintro W ⟨y, rfl⟩
        go_simp
        (try with_reducible rfl)
      simp only [Act.put, List.setIfInBounds_toArray, List.set_cons_zero, List.set_cons_succ]
      refine ord_take (v := ?_) 3 rfl rfl (by kernel_rfl) (by kernel_rfl) (fun _ _ _ h => h) (Or.inl ⟨by rfl, ?_⟩) hS ?_
      rotate_left
      · rintro W ⟨y, rfl⟩
        go_simp
        (try with_reducible rfl)
      simp only [Act.put, List.setIfInBounds_toArray, List.set_cons_zero, List.set_cons_succ]
      refine ord_take (v := ?_) 4 rfl rfl (by kernel_rfl) (by kernel_rfl) (fun _ _ _ h => h) (Or.inl ⟨by rfl, ?_⟩) hS ?_
      rotate_left
      · rintro W ⟨y, rfl⟩
        go_simp
        (try with_reducible rfl)
      simp only [Act.put, List.setIfInBounds_toArray, List.set_cons_zero, List.set_cons_succ]
      refine ord_take (v := ?_) 5 rfl rfl (by kernel_rfl) (by kernel_rfl) (fun _ _ _ h => h) (Or.inl ⟨by rfl, ?_⟩) hS ?_
      rotate_left
      · rintro W ⟨y, rfl⟩
        go_simp
        (try with_reducible rfl)
      simp only [Act.put, List.setIfInBounds_toArray, List.set_cons_zero, List.set_cons_succ]
      refine ord_take (v := ?_) 6 rfl rfl (by kernel_rfl) (by kernel_rfl) (fun _ _ _ h => h) (Or.inl ⟨by rfl, ?_⟩) hS ?_
      rotate_left
      · rintro W ⟨y, rfl⟩
        go_simp
        (try with_reducible rfl)
      simp only [Act.put, List.setIfInBounds_toArray, List.set_cons_zero, List.set_cons_succ]
      have HG := Lib.hid (fun (W : World) (hW : Below wo.heap.size wo W) => (⟨⟨W, hW⟩, rfl⟩ : ∃ y : Grown wo, W = y.world))
      clear hS HMo HAo
      refine ord_one 7 rfl (by kernel_rfl) rfl ?_
      intro K hK
      go_simp
      refine HPC.out.mono ?_; rintro e w3 ⟨b3, A4, c4, rfl, hs4⟩
      have Q3 := btr (bdrew (Below.refl wo.heap.size wo)) b3
      refine hK.out _ _ (HG.out _ Q3) ?_
      clear hK K b3 HPC
      try simp only
      have hS := HG.out _ Q3
      refine ord_take (v := ?_) 8 rfl rfl (by kernel_rfl) (by kernel_rfl) (fun _ _ _ h => h) (Or.inl ⟨by rfl, ?_⟩) hS ?_
      rotate_left
      · rintro W ⟨y, rfl⟩
        go_simp
        (try with_reducible rfl)
      simp only [Act.put, List.setIfInBounds_toArray, List.set_cons_zero, List.set_cons_succ]
      refine ord_take (v := ?_) 9 rfl rfl (by kernel_rfl) (by kernel_rfl) (fun _ _ _ h => h) (Or.inl ⟨by rfl, ?_⟩) hS ?_
      rotate_left
      · rintro W ⟨y, rfl⟩
        go_simp
        (try with_reducible rfl)
      simp only [Act.put, List.setIfInBounds_toArray, List.set_cons_zero, List.set_cons_succ]
      refine ord_take (v := ?_) 10 rfl rfl (by kernel_rfl) (by kernel_rfl) (fun _ _ _ h => h) (Or.inl ⟨by rfl, ?_⟩) hS ?_
      rotate_left
      · rintro W ⟨y, rfl⟩
        go_simp
        (try with_reducible rfl)
      simp only [Act.put, List.setIfInBounds_toArray, List.set_cons_zero, List.set_cons_succ]
      refine ord_take (v := ?_) 11 rfl rfl (by kernel_rfl) (by kernel_rfl) (fun _ _ _ h => h) (Or.inl ⟨by rfl, ?_⟩) hS ?_
      rotate_left
      · rintro W ⟨y, rfl⟩
        go_simp
        (try with_reducible rfl)
      simp only [Act.put, List.setIfInBounds_toArray, List.set_cons_zero, List.set_cons_succ]
      refine ord_take (v := ?_) 12 rfl rfl (by kernel_rfl) (by kernel_rfl) (fun _ _ _ h => h) (Or.inl ⟨by rfl, ?_⟩) hS ?_
      rotate_left
      · rintro W ⟨y, rfl⟩
        go_simp
        (try with_reducible rfl)
      simp only [Act.put, List.setIfInBounds_toArray, List.set_cons_zero, List.set_cons_succ]
      clear hS HG
      refine ⟨by kernel_rfl, ?_⟩
      refine NoPanic.normal ?_
      have B3 := btr B2 (btr hbr Q3)
      have hA3 := hA2.below (btr hbr Q3)
      have HJ2 := Lib.hid (HJC.out w3 A4 c4 Q3 hs4)
      clear HJC
      by_cases hpe : ep = 0
      · rw [if_neg (by simpa using hpe)] at HC
        have hpe' : (ep == 0) = true := by simp [hpe]
        clear hpe
        go_wp2_with fail
        refine HJ2.out.mono ?_; rintro e w5 ⟨A5, c5, rfl, ho5, b5⟩
        have B5 := btr B3 b5
        have Q5 := btr Q3 b5
        have hA5 := hA3.below b5
        have hs5 := own_sl ho5
        have hnc5 := own_cap ho5
        have hcx5 := own_capm ho5
        have hfr5 := fresh_own ho5 B3.size
        clear HJ2 ho5 b5 hA3 B3
        by_cases hje : je = 0
        · rw [if_neg (by simpa using hje)] at HC
          have hje' : (je != 0) = false := by simp [hje]
          clear hje
          have HAo := Lib.hid fun (W : World) (hW : ∃ y : Grown w5, W = y.world) => (show BC W w.heap.size _ by obtain ⟨y, rfl⟩ := hW; exact hA5.below y.below)
          go_upto_region 12 with (fail)
          refine wp_region_ord (fun W => ∃ y : Grown w5, W = y.world) [] 10 (by kernel_rfl) (by kernel_rfl) ⟨⟨_, bdrew (Below.refl _ _)⟩, rfl⟩ ?_
          intro hS
          refine ord_take 0 rfl rfl (by kernel_rfl) (by kernel_rfl) (fun _ _ _ h => h) (yieldsIf_rec (by rfl) _ _ rfl _ rfl _ 9 foT HAo.out rfl) hS ?_
          simp only [Act.put, List.setIfInBounds_toArray, List.set_cons_zero, List.set_cons_succ]
          refine ord_take (v := ?_) 1 rfl rfl (by kernel_rfl) (by kernel_rfl) (fun _ _ _ h => h) (Or.inl ⟨by rfl, ?_⟩) hS ?_
          rotate_left
          · rintro W ⟨y, rfl⟩
            go_simp
            (try with_reducible rfl)
          simp only [Act.put, List.setIfInBounds_toArray, List.set_cons_zero, List.set_cons_succ]
          refine ord_take (v := ?_) 2 rfl rfl (by kernel_rfl) (by kernel_rfl) (fun _ _ _ h => h) (Or.inl ⟨by rfl, ?_⟩) hS ?_
          rotate_left
          · rintro W ⟨y, rfl⟩
            go_simp
            (try with_reducible rfl)
          simp only [Act.put, List.setIfInBounds_toArray, List.set_cons_zero, List.set_cons_succ]
          refine ord_take (v := ?_) 3 rfl rfl (by kernel_rfl) (by kernel_rfl) (fun _ _ _ h => h) (Or.inl ⟨by rfl, ?_⟩) hS ?_
          rotate_left
          · rintro W ⟨y, rfl⟩
            go_simp
            (try with_reducible rfl)
          simp only [Act.put, List.setIfInBounds_toArray, List.set_cons_zero, List.set_cons_succ]
          have HG := Lib.hid (fun (W : World) (hW : Below w5.heap.size w5 W) => (⟨⟨W, hW⟩, rfl⟩ : ∃ y : Grown w5, W = y.world))
          clear hS HAo
          refine ord_one 4 rfl (by kernel_rfl) rfl ?_
          intro K hK
          go_simp
          refine (HWc.out _ (btr B5 (bdrew (Below.refl _ _)))).mono ?_; rintro e w7 ⟨rfl, b7⟩
          have R7 := btr (bdrew (Below.refl w5.heap.size w5)) b7
          refine hK.out _ _ (HG.out _ R7) ?_
          clear hK K b7 HWc
          try simp only
          have hS := HG.out _ R7
          refine ord_take (v := ?_) 5 rfl rfl (by kernel_rfl) (by kernel_rfl) (fun _ _ _ h => h) (Or.inl ⟨by rfl, ?_⟩) hS ?_
          rotate_left
          · rintro W ⟨y, rfl⟩
            go_simp
            (try with_reducible rfl)
          simp only [Act.put, List.setIfInBounds_toArray, List.set_cons_zero, List.set_cons_succ]
          refine ord_take (v := ?_) 6 rfl rfl (by kernel_rfl) (by kernel_rfl) (fun _ _ _ h => h) (Or.inl ⟨by rfl, ?_⟩) hS ?_
          rotate_left
          · rintro W ⟨y, rfl⟩
            go_simp
            (try with_reducible rfl)
          simp only [Act.put, List.setIfInBounds_toArray, List.set_cons_zero, List.set_cons_succ]
          refine ord_take (v := ?_) 7 rfl rfl (by kernel_rfl) (by kernel_rfl) (fun _ _ _ h => h) (Or.inl ⟨by rfl, ?_⟩) hS ?_
          rotate_left
          · rintro W ⟨y, rfl⟩
            go_simp
            (try with_reducible rfl)
          simp only [Act.put, List.setIfInBounds_toArray, List.set_cons_zero, List.set_cons_succ]
          refine ord_take (v := ?_) 8 rfl rfl (by kernel_rfl) (by kernel_rfl) (fun _ _ _ h => h) (Or.inl ⟨by rfl, ?_⟩) hS ?_
          rotate_left
          · rintro W ⟨y, rfl⟩
            go_simp
            (try with_reducible rfl)
          simp only [Act.put, List.setIfInBounds_toArray, List.set_cons_zero, List.set_cons_succ]
          refine ord_take (v := ?_) 9 rfl rfl (by kernel_rfl) (by kernel_rfl) (fun _ _ _ h => h) (Or.inl ⟨by rfl, ?_⟩) hS ?_
          rotate_left
          · rintro W ⟨y, rfl⟩
            go_simp
            (try with_reducible rfl)
          simp only [Act.put, List.setIfInBounds_toArray, List.set_cons_zero, List.set_cons_succ]
          clear hS HG
          refine ⟨by kernel_rfl, ?_⟩
          refine NoPanic.normal ?_
          have hA7 := hA5.below R7
          have hs7 := hs5.below R7
          have Q7 := btr Q5 R7
          have B7 := btr B5 R7
          clear hA5 hs5 Q5 B5 R7
          have hkw : IntKind.i64.wrap ((k : Int) + 1) = (k : Int) + 1 := IntWalk.i64_in _ (by omega)
          by_cases hk1 : k + 1 < n
          · have hk1' : decide ((k : Int) + 1 < (s.size : Int)) = true := decide_eq_true (by rw [HNS.out]; omega)
            have hks1 : k + 1 < s.size := by rw [HNS.out]; exact hk1
            have hby2 := fun W => run_byt (t := 9) (i := (k : Int) + 1) (k := k + 1) (by omega) Tryz.underlying9 hks1 W
            have hcb2 := byt_lt s (k + 1)
            have hz1 := HZ.out
            rw [bl_dropF hks1] at hz1
            obtain ⟨d, hd⟩ : ∃ d, byt s (k + 1) = d := ⟨_, rfl⟩
            rw [hd] at hz1 hby2 hcb2
            simp only at hz1
            have hkb := HKB.out c d
            have HK1 := Lib.hid fun W (hb : Below w.heap.size w W) => HK.out c d W hcb hcb2 hb
            rw [HOB.out] at HK1
            simp only [if_true] at HK1
            obtain ⟨kv, hkv⟩ : ∃ v, kernF F c d = v := ⟨_, rfl⟩
            rw [hkv] at hz1 HK1 hkb
            have hadd : IntKind.i64.wrap (wd + kv) = wd + kv := IntWalk.i64_in _ (by omega)
            have HZ1 := Lib.hid hz1
            have HAo := Lib.hid fun (W : World) (hW : ∃ y : Grown w7, W = y.world) => (show BC W w.heap.size _ by obtain ⟨y, rfl⟩ := hW; exact hA7.below y.below)
            clear hd hkv hz1 hk1
            go_upto_region 14 with (fail)
            refine wp_region_ord (fun W => ∃ y : Grown w7, W = y.world) [] 12 (by kernel_rfl) (by kernel_rfl) ⟨⟨_, bdrew (Below.refl _ _)⟩, rfl⟩ ?_
            intro hS
            refine ord_take (v := ?_) 0 rfl rfl (by kernel_rfl) (by kernel_rfl) (fun _ _ _ h => h) (Or.inl ⟨by rfl, ?_⟩) hS ?_
            rotate_left
            · rintro W ⟨y, rfl⟩
              go_simp
              (try with_reducible rfl)
            simp only [Act.put, List.setIfInBounds_toArray, List.set_cons_zero, List.set_cons_succ]
            refine ord_take 1 rfl rfl (by kernel_rfl) (by kernel_rfl) (fun _ _ _ h => h) (yieldsIf_rec (by rfl) _ _ rfl _ rfl _ 9 foT HAo.out rfl) hS ?_
            simp only [Act.put, List.setIfInBounds_toArray, List.set_cons_zero, List.set_cons_succ]
            refine ord_take (v := ?_) 2 rfl rfl (by kernel_rfl) (by kernel_rfl) (fun _ _ _ h => h) (Or.inl ⟨by rfl, ?_⟩) hS ?_
            rotate_left
            · rintro W ⟨y, rfl⟩
              go_simp
              (try with_reducible rfl)
            simp only [Act.put, List.setIfInBounds_toArray, List.set_cons_zero, List.set_cons_succ]
            refine ord_take (v := ?_) 3 rfl rfl (by kernel_rfl) (by kernel_rfl) (fun _ _ _ h => h) (Or.inl ⟨by rfl, ?_⟩) hS ?_
            rotate_left
            · rintro W ⟨y, rfl⟩
              go_simp
              (try with_reducible rfl)
            simp only [Act.put, List.setIfInBounds_toArray, List.set_cons_zero, List.set_cons_succ]
            refine ord_take (v := ?_) 4 rfl rfl (by kernel_rfl) (by kernel_rfl) (fun _ _ _ h => h) (Or.inl ⟨by rfl, ?_⟩) hS ?_
            rotate_left
            · rintro W ⟨y, rfl⟩
              go_simp
              (try with_reducible rfl)
            simp only [Act.put, List.setIfInBounds_toArray, List.set_cons_zero, List.set_cons_succ]
            refine ord_take (v := ?_) 5 rfl rfl (by kernel_rfl) (by kernel_rfl) (fun _ _ _ h => h) (Or.inl ⟨by rfl, ?_⟩) hS ?_
            rotate_left
            · rintro W ⟨y, rfl⟩
              go_simp
              (try with_reducible rfl)
            simp only [Act.put, List.setIfInBounds_toArray, List.set_cons_zero, List.set_cons_succ]
            refine ord_take (v := ?_) 6 rfl rfl (by kernel_rfl) (by kernel_rfl) (fun _ _ _ h => h) (Or.inl ⟨by rfl, ?_⟩) hS ?_
            rotate_left
            · rintro W ⟨y, rfl⟩
              go_simp
              (try with_reducible rfl)
            simp only [Act.put, List.setIfInBounds_toArray, List.set_cons_zero, List.set_cons_succ]
            refine ord_take (v := ?_) 7 rfl rfl (by kernel_rfl) (by kernel_rfl) (fun _ _ _ h => h) (Or.inl ⟨by rfl, ?_⟩) hS ?_
            rotate_left
            · rintro W ⟨y, rfl⟩
              go_simp
              (try with_reducible rfl)
            simp only [Act.put, List.setIfInBounds_toArray, List.set_cons_zero, List.set_cons_succ]
            refine ord_take (v := ?_) 8 rfl rfl (by kernel_rfl) (by kernel_rfl) (fun _ _ _ h => h) (Or.inl ⟨by rfl, ?_⟩) hS ?_
            rotate_left
            · rintro W ⟨y, rfl⟩
              go_simp
              (try with_reducible rfl)
            simp only [Act.put, List.setIfInBounds_toArray, List.set_cons_zero, List.set_cons_succ]
            have HG := Lib.hid (fun (W : World) (hW : Below w7.heap.size w7 W) => (⟨⟨W, hW⟩, rfl⟩ : ∃ y : Grown w7, W = y.world))
            clear hS HAo
            refine ord_one 9 rfl (by kernel_rfl) rfl ?_
            intro K hK
            go_simp
            refine (HK1.out _ (btr B7 (bdrew (Below.refl _ _)))).mono ?_; rintro e w8 ⟨rfl, b8⟩
            have R8 := btr (bdrew (Below.refl w7.heap.size w7)) b8
            refine hK.out _ _ (HG.out _ R8) ?_
            clear hK K b8
            try simp only
            have hS := HG.out _ R8
            refine ord_take (v := ?_) 10 rfl rfl (by kernel_rfl) (by kernel_rfl) (fun _ _ _ h => h) (Or.inl ⟨by rfl, ?_⟩) hS ?_
            rotate_left
            · rintro W ⟨y, rfl⟩
              go_simp
              (try with_reducible rfl)
            simp only [Act.put, List.setIfInBounds_toArray, List.set_cons_zero, List.set_cons_succ]
            refine ord_take (v := ?_) 11 rfl rfl (by kernel_rfl) (by kernel_rfl) (fun _ _ _ h => h) (Or.inl ⟨by rfl, ?_⟩) hS ?_
            rotate_left
            · rintro W ⟨y, rfl⟩
              go_simp
              (try with_reducible rfl)
            simp only [Act.put, List.setIfInBounds_toArray, List.set_cons_zero, List.set_cons_succ]
            clear hS HG hby hby2
            refine ⟨by kernel_rfl, ?_⟩
            refine NoPanic.normal ?_
            have hzz := HZ1.out
            subst hzz
            have hA8 := hA7.below R8
            have hs8 := hs7.below R8
            have Q8 := btr Q7 R8
            have B8 := btr B7 R8
            have hzw : IntKind.i64.wrap ((wd + kv) * 65536) = (wd + kv) * 65536 := IntWalk.i64_in _ (by omega)
            have HA1 := Lib.hid fun W => HAi.out ((wd + kv) * 65536) 0 W
            rw [HA.out] at HA1
            unfold vP at HA1
            simp only at HA1
            have hab := aim_bd F.m ((wd + kv) * 65536) 0
            rw [HA.out] at hab
            simp only at hab
            have hx1 := fixB_iff.1 hfx.out
            have hy1 := fixB_iff.1 hfy.out
            have wx : IntKind.i64.wrap (xk + dx) = xk + dx := IntWalk.i64_in _ (by omega)
            have wy : IntKind.i64.wrap (yk + dy) = yk + dy := IntWalk.i64_in _ (by omega)
            have HAE := Lib.hid (aim_two (m := F.m) (u := (wd + kv) * 65536) (v := 0) HMF.out (fixB_iff.2 (by omega)) rfl)
            rw [HA.out] at HAE
            simp only at HAE
            clear hx1 hy1 hab
            go_wp2_with (first
              | (refine wpList_load_foM rfl _ _ rfl w.heap.size rfl F.m _ _ _ matT2 hA8 ?_)
              | fail)
            refine (HA1.out _).mono ?_; rintro e w6 ⟨rfl, b6⟩
            have B6 := btr B8 b6
            have Q6 := btr Q8 b6
            have hs6 := hs8.below b6
            clear HA1 HA hzw
            by_cases hae : ae = 0
            · rw [if_neg (by simpa using hae)] at HC
              have hae' : (ae != 0) = false := by simp [hae]
              have HX := Lib.hid fun W => rIsFix_any (xk + dx) W
              have HY := Lib.hid fun W => rIsFix_any (yk + dy) W
              clear hae HAE
              go_wp2_with fail
              refine (HX.out _).mono ?_; rintro e w' ⟨rfl, rfl⟩
              cases gx : fixB (xk + dx)
              · have HE := Lib.hid (show R = (([], 0, 0), 2) by rw [HC.out, gx]; rfl)
                clear gx
                clear HC
                go_wp2
                (try simp only [Exit.inBlock, Exit.then])
                refine bodyPost_ret (results_tmp4 rfl _ _ _) rfl ?_
                unfold OutAns
                rw [HE.out]
                exact ⟨B6, none, 0, rfl, Sl.nil_, Nat.le_refl _, fun h => absurd h (Nat.lt_irrefl _), Nat.zero_le _⟩
              go_wp2_with fail
              refine (HY.out _).mono ?_; rintro e w' ⟨rfl, rfl⟩
              cases gy : fixB (yk + dy)
              · have HE := Lib.hid (show R = (([], 0, 0), 2) by rw [HC.out, gx, gy]; rfl)
                clear gx gy
                clear HC
                go_wp2
                (try simp only [Exit.inBlock, Exit.then])
                refine bodyPost_ret (results_tmp4 rfl _ _ _) rfl ?_
                unfold OutAns
                rw [HE.out]
                exact ⟨B6, none, 0, rfl, Sl.nil_, Nat.le_refl _, fun h => absurd h (Nat.lt_irrefl _), Nat.zero_le _⟩
              have HNX : Hid (R = outS F m J (xk + dx) (yk + dy) ((bl s).drop (k + 1))) := Lib.hid (by rw [HC.out, gx, gy]; rfl)
              have HGX := Lib.hid gx
              have HGY := Lib.hid gy
              clear gx gy HC
              go_wp2_with fail
              go_roundw
              case rel => exact ⟨k + 1, A5, c5, J, xk + dx, yk + dy, nj, by omega, rfl, rfl, rfl, by go_num, btr hbr Q6, HNX, hs6, hnc5, hJl, HGX, HGY, hfr5, hcx5⟩
              case measure => (simp [intOf]) <;> omega
            · have HE := Lib.hid (show R = (([], 0, 0), 2) by rw [HC.out, if_pos (by simpa using hae), HAE.out.resolve_left hae])
              have hae' : (ae != 0) = true := by simp [hae]
              clear hae HAE
              clear HC
              go_wp2
              (try simp only [Exit.inBlock, Exit.then])
              refine bodyPost_ret (results_tmp4 rfl _ _ _) rfl ?_
              unfold OutAns
              rw [HE.out]
              exact ⟨B6, none, 0, rfl, Sl.nil_, Nat.le_refl _, fun h => absurd h (Nat.lt_irrefl _), Nat.zero_le _⟩
          · have hk1' : decide ((k : Int) + 1 < (s.size : Int)) = false := decide_eq_false (by rw [HNS.out]; omega)
            have hz0 : z = wd := by rw [← HZ.out, List.drop_of_length_le (show (bl s).length ≤ k + 1 by rw [bl_len, HNS.out]; omega)]; simp
            clear hby
            subst hz0
            have hzw : IntKind.i64.wrap (z * 65536) = z * 65536 := IntWalk.i64_in _ (by omega)
            have HA1 := Lib.hid fun W => HAi.out (z * 65536) 0 W
            rw [HA.out] at HA1
            unfold vP at HA1
            simp only at HA1
            have hab := aim_bd F.m (z * 65536) 0
            rw [HA.out] at hab
            simp only at hab
            have hx1 := fixB_iff.1 hfx.out
            have hy1 := fixB_iff.1 hfy.out
            have wx : IntKind.i64.wrap (xk + dx) = xk + dx := IntWalk.i64_in _ (by omega)
            have wy : IntKind.i64.wrap (yk + dy) = yk + dy := IntWalk.i64_in _ (by omega)
            have HAE := Lib.hid (aim_two (m := F.m) (u := z * 65536) (v := 0) HMF.out (fixB_iff.2 (by omega)) rfl)
            rw [HA.out] at HAE
            simp only at HAE
            clear hx1 hy1 hab
            go_wp2_with (first
              | (refine wpList_load_foM rfl _ _ rfl w.heap.size rfl F.m _ _ _ matT2 hA7 ?_)
              | fail)
            refine (HA1.out _).mono ?_; rintro e w6 ⟨rfl, b6⟩
            have B6 := btr B7 b6
            have Q6 := btr Q7 b6
            have hs6 := hs7.below b6
            clear HA1 HA hzw
            by_cases hae : ae = 0
            · rw [if_neg (by simpa using hae)] at HC
              have hae' : (ae != 0) = false := by simp [hae]
              have HX := Lib.hid fun W => rIsFix_any (xk + dx) W
              have HY := Lib.hid fun W => rIsFix_any (yk + dy) W
              clear hae HAE
              go_wp2_with fail
              refine (HX.out _).mono ?_; rintro e w' ⟨rfl, rfl⟩
              cases gx : fixB (xk + dx)
              · have HE := Lib.hid (show R = (([], 0, 0), 2) by rw [HC.out, gx]; rfl)
                clear gx
                clear HC
                go_wp2
                (try simp only [Exit.inBlock, Exit.then])
                refine bodyPost_ret (results_tmp4 rfl _ _ _) rfl ?_
                unfold OutAns
                rw [HE.out]
                exact ⟨B6, none, 0, rfl, Sl.nil_, Nat.le_refl _, fun h => absurd h (Nat.lt_irrefl _), Nat.zero_le _⟩
              go_wp2_with fail
              refine (HY.out _).mono ?_; rintro e w' ⟨rfl, rfl⟩
              cases gy : fixB (yk + dy)
              · have HE := Lib.hid (show R = (([], 0, 0), 2) by rw [HC.out, gx, gy]; rfl)
                clear gx gy
                clear HC
                go_wp2
                (try simp only [Exit.inBlock, Exit.then])
                refine bodyPost_ret (results_tmp4 rfl _ _ _) rfl ?_
                unfold OutAns
                rw [HE.out]
                exact ⟨B6, none, 0, rfl, Sl.nil_, Nat.le_refl _, fun h => absurd h (Nat.lt_irrefl _), Nat.zero_le _⟩
              have HNX : Hid (R = outS F m J (xk + dx) (yk + dy) ((bl s).drop (k + 1))) := Lib.hid (by rw [HC.out, gx, gy]; rfl)
              have HGX := Lib.hid gx
              have HGY := Lib.hid gy
              clear gx gy HC
              go_wp2_with fail
              go_roundw
              case rel => exact ⟨k + 1, A5, c5, J, xk + dx, yk + dy, nj, by omega, rfl, rfl, rfl, by go_num, btr hbr Q6, HNX, hs6, hnc5, hJl, HGX, HGY, hfr5, hcx5⟩
              case measure => (simp [intOf]) <;> omega
            · have HE := Lib.hid (show R = (([], 0, 0), 2) by rw [HC.out, if_pos (by simpa using hae), HAE.out.resolve_left hae])
              have hae' : (ae != 0) = true := by simp [hae]
              clear hae HAE
              clear HC
              go_wp2
              (try simp only [Exit.inBlock, Exit.then])
              refine bodyPost_ret (results_tmp4 rfl _ _ _) rfl ?_
              unfold OutAns
              rw [HE.out]
              exact ⟨B6, none, 0, rfl, Sl.nil_, Nat.le_refl _, fun h => absurd h (Nat.lt_irrefl _), Nat.zero_le _⟩
        · have HE := Lib.hid (show R = (([], 0, 0), je) by rw [HC.out, if_pos (by simpa using hje)])
          have hje' : (je != 0) = true := by simp [hje]
          clear hje
          clear HC
          go_wp2
          (try simp only [Exit.inBlock, Exit.then])
          refine bodyPost_ret (results_tmp4 rfl _ _ _) rfl ?_
          unfold OutAns
          rw [HE.out]
          exact ⟨B5, none, 0, rfl, Sl.nil_, Nat.le_refl _, fun h => absurd h (Nat.lt_irrefl _), Nat.zero_le _⟩
      · have HE := Lib.hid (show R = (([], 0, 0), ep) by rw [HC.out, if_pos (by simpa using hpe)])
        have hpe' : (ep != 0) = true := by simp [hpe]
        have hpe'' : (ep == 0) = false := by simp [hpe]
        clear hpe
        clear HC
        go_wp2
        (try simp only [Exit.inBlock, Exit.then])
        refine bodyPost_ret (results_tmp4 rfl _ _ _) rfl ?_
        unfold OutAns
        rw [HE.out]
        exact ⟨B3, none, 0, rfl, Sl.nil_, Nat.le_refl _, fun h => absurd h (Nat.lt_irrefl _), Nat.zero_le _⟩
    · obtain rfl : k = n := by omega
      have HE := Lib.hid (show R = ((Lk, xk, yk), 0) by rw [hal.out, List.drop_of_length_le (by rw [bl_len, HNS.out]; omega)]; rfl)
      have hO := hs1.sglen
      have hks : ¬ (k : Int) < (s.size : Int) := by rw [HNS.out]; omega
      have hks' : decide ((k : Int) < (s.size : Int)) = false := decide_eq_false hks
      clear hal HR2
      go_wp2
      (try simp only [Exit.inBlock, Exit.then])
      refine bodyPost_ret (results_tmp4 rfl _ _ _) rfl ?_
      unfold OutAns
      refine ⟨btr B2 hbr, A1, c1, ?_, ?_, ?_, ?_, hcx1⟩
      · rw [HE.out]
        show _ = Ending.returned (.tuple #[.slice A1 Lk.length c1, .int .i64 xk, .int .i64 yk, .int .i64 0])
        rw [hO]; rfl
      · rw [HE.out]
        show Sl _ 5 A1 Lk.length (sgs Lk)
        rw [hO]; exact hs1
      · rw [HE.out]
        show Lk.length ≤ c1
        rw [hO]; exact hnc1
      · rw [HE.out]
        show FreshA w.heap.size A1 Lk.length
        rw [hO]; exact hfr1
theorem rOutline_any (F : Fo) (C : List Value) (m : Mt) (x y : Int) (s : ByteArray) (R : (List Sg × Int × Int) × Int) (w : World) (hsz : s.size ≤ 1000000) (h : FoAt w F C) (hR : outF F m x y (bl s) = R) :
    Calls Tryz.prog 53 #[.agg C.toArray, mtv m, .int .i64 x, .int .i64 y, .string s] w fun e w' => Below w.heap.size w w' ∧ ∃ A' c', e = .returned (.tuple #[.slice A' R.1.1.length c', .int .i64 R.1.2.1, .int .i64 R.1.2.2, .int .i64 R.2]) ∧
      Sl w' 5 A' R.1.1.length (sgs R.1.1) := (rOutline_core F C m x y s R w hsz h hR).mono fun _ _ ⟨h1, A', c', h2, h3, _, _⟩ => ⟨h1, A', c', h2, h3⟩
end Go.Proofs.YtdfkbbcoolgfiaaGreat
