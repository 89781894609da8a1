/- The reference's Rect. -/
import Derived.Test.YtaadajadeemndaaStR3
import Derived.Test.YtaadajadeemndaaStRect
import Derived.Test.YtaadajadeemndaaRefJoin
namespace Go.Proofs.Ytaadajadeemndaa
open Go.RowKit Go.BigFrame

theorem rcE_ref {F : Int → Int → Int × Int × Int} {u v wd ht : Int} (hu : fixB u = true) (hv : fixB v = true) {k : Nat} (hk : k < 4) (hprev : ∀ j, j < k → rcE F u v wd ht j = 0) :
    (fixB (rcX u wd k) && fixB (rcY v ht k)) = !((decide (0 < k) && !fixB (u + wd)) || (decide (1 < k) && !fixB (v + ht))) := by
  have hc : k = 0 ∨ k = 1 ∨ k = 2 ∨ k = 3 := by omega
  rcases hc with rfl | rfl | rfl | rfl
  · simp [rcX, rcY, hu, hv]
  · simp [rcX, rcY, hv]
  · simp [rcX, rcY]
  · have h1 := hprev 1 (by omega)
    cases hp : fixB (u + wd)
    · simp [rcE, hp] at h1
    · simp [rcX, rcY, hu]
set_option maxRecDepth 100000 in
set_option maxHeartbeats 8000000 in
theorem rRectS_any (x : St) (P C D : Value) (u v wd ht : Int) (Y : St × Int) (w : World) (h : StAt w x P C D) (hf : stFew x) (hY : rectS x u v wd ht = Y) : Calls Try.prog 28 #[.agg (stC x P C D).toArray, .int .i64 u, .int .i64 v, .int .i64 wd, .int .i64 ht] w
    fun r w' => ∃ P' C' D', r = .returned (.tuple #[.agg (stC Y.1 P' C' D').toArray, .int .i64 Y.2]) ∧ RefOut w' w.heap.size x Y.1 P' C' D' C D ∧ Below w.heap.size w w' := by
  have HS := Lib.hid h
  obtain ⟨w0, hw0⟩ : ∃ w0 : World, w0 = (w.alloc (.cells (stC x P C D).toArray 34)).alloc (.cells (stC zeroS (.slice none 0 0) (.slice none 0 0) (.slice none 0 0)).toArray 34) := ⟨_, rfl⟩
  have hB0 : Below w.heap.size w w0 := by rw [hw0]; exact bal (bal (Below.refl _ _) _) _
  have hA : BC w0 w.heap.size (stC x P C D) := by rw [hw0]; exact (BC.new (stC x P C D) 34 rfl).below (bal (Below.refl _ _) _)
  have hR : BC w0 (w.heap.size + 1) (stC zeroS (.slice none 0 0) (.slice none 0 0) (.slice none 0 0)) := by rw [hw0]; exact BC.new (w := w.alloc (.cells (stC x P C D).toArray 34)) _ 34 (by simp)
  have hgA := hA.lt
  have hgR := hR.lt
  have h0 := h.below hB0
  rw [zero_lit] at hw0
  obtain ⟨Ap, cp, rfl, hp, hpc, hpm⟩ := h0.p
  obtain ⟨np, hnp⟩ : ∃ n, n = x.p.length := ⟨_, rfl⟩
  rw [← hnp] at hw0 hA hp hpc h h0 HS ⊢
  have HY := Lib.hid hY
  have HM := Lib.hid fun W (hb : Below w0.heap.size w0 W) => rStMay_any x (.slice Ap np cp) C D W (h0.below hb) hf
  have H0 := Lib.hid h0
  have HP := Lib.hid hp
  have HA := Lib.hid hA
  have HR := Lib.hid hR
  have hnp3 : np ≤ 1000 := by rw [hnp]; exact hf.1
  have HFEW := Lib.hid hf
  clear hY h0 h hp hA hR hnp hf
  go_enter Try.func28, Try.ntmps28
  go_upto_region 1 with (fail)
  rw [← hw0]
  clear hw0
  go_wp2_with (first
    | (refine wpList_load_rec rfl _ _ rfl w.heap.size rfl _ 24 stT HA.out rfl ?_)
    | fail)
  refine (HM.out _ (Below.refl _ _)).mono ?_; rintro e w1 ⟨rfl, hb1⟩
  have G1 := hb1
  have B1 := btr hB0 G1
  clear hb1
  cases hm : mayS x
  · have HY2 : Hid (Y = (zeroS, 1)) := Lib.hid (by rw [← HY.out]; unfold rectS; rw [hm]; simp)
    have hF := (HR.out.below G1).putAll (stC zeroS (.slice none 0 0) (.slice none 0 0) (.slice none 0 0)) rfl
    have hFB := below_setCells (Nat.le_succ w.heap.size) (stC zeroS (.slice none 0 0) (.slice none 0 0) (.slice none 0 0)) 0 _ (B1)
    go_wp2_with (first
      | (refine wpList_store_rec rfl _ _ _ rfl (w.heap.size + 1) (stC zeroS (.slice none 0 0) (.slice none 0 0) (.slice none 0 0)) _ rfl rfl 24 stT (HR.out.below G1) rfl rfl zero_one ?_)
      | fail)
    try rw [Exit.noGoto_ret]
    refine bodyPost_ret (result_rec rfl rfl rfl stT hF rfl) rfl ?_
    rw [HY2.out]
    exact ⟨_, _, _, rfl, RefOut.zero, hFB⟩
  · go_wp2_with fail
    refine (rFixes_any _ 4 _ [u, v, wd, ht] _ (by omega) (sl_new (w := w1) (t := 3) (ints [u, v, wd, ht]) rfl rfl)).mono ?_; rintro e w' ⟨rfl, rfl⟩
    have G2 := bal G1 (.cells (ints [u, v, wd, ht]).toArray 3)
    have B2 := bal B1 (.cells (ints [u, v, wd, ht]).toArray 3)
    obtain ⟨w2, hw2⟩ : ∃ w2, w2 = w1.alloc (.cells (ints [u, v, wd, ht]).toArray 3) := ⟨_, rfl⟩
    rw [← hw2] at G2 B2 ⊢
    clear hw2
    cases hfx : [u, v, wd, ht].all fixB
    · have HY2 : Hid (Y = (zeroS, 1)) := Lib.hid (by rw [← HY.out]; unfold rectS; rw [hm, hfx]; simp)
      have hF := (HR.out.below G2).putAll (stC zeroS (.slice none 0 0) (.slice none 0 0) (.slice none 0 0)) rfl
      have hFB := below_setCells (Nat.le_succ w.heap.size) (stC zeroS (.slice none 0 0) (.slice none 0 0) (.slice none 0 0)) 0 _ (B2)
      go_wp2_with (first
        | (refine wpList_store_rec rfl _ _ _ rfl (w.heap.size + 1) (stC zeroS (.slice none 0 0) (.slice none 0 0) (.slice none 0 0)) _ rfl rfl 24 stT (HR.out.below G2) rfl rfl zero_one ?_)
        | fail)
      try rw [Exit.noGoto_ret]
      refine bodyPost_ret (result_rec rfl rfl rfl stT hF rfl) rfl ?_
      rw [HY2.out]
      exact ⟨_, _, _, rfl, RefOut.zero, hFB⟩
    · obtain ⟨f1, f2, f3, f4⟩ : fixB u = true ∧ fixB v = true ∧ fixB wd = true ∧ fixB ht = true := by simpa using hfx
      have e1 : wrap64 (u + wd) = u + wd := IntWalk.wrap64_in _ (by rw [fixB_iff] at f1 f3; omega)
      have e2 : wrap64 (v + ht) = v + ht := IntWalk.wrap64_in _ (by rw [fixB_iff] at f2 f4; omega)
      have e1' : IntKind.i64.wrap (u + wd) = u + wd := IntWalk.i64_in _ (by rw [fixB_iff] at f1 f3; omega)
      have e2' : IntKind.i64.wrap (v + ht) = v + ht := IntWalk.i64_in _ (by rw [fixB_iff] at f2 f4; omega)
      have HFU := Lib.hid f1
      have HFV := Lib.hid f2
      have HY3 : Hid (Y = if firstE (rcE (pointM x.m) u v wd ht) ≠ 0 then (zeroS, firstE (rcE (pointM x.m) u v wd ht)) else withS x (joinL x.p (rcL (pointM x.m) u v wd ht 4 ++ [⟨4, 0, 0, 0, 0⟩]))) := Lib.hid (by rw [← HY.out]; unfold rectS; rw [hm, hfx]; simp)
      have HPt := Lib.hid fun a b W (hb : Below w0.heap.size w0 W) => rPointS_any x (.slice Ap np cp) C D a b false W (H0.out.below hb) HFEW.out
      have hps : ∀ a b, pointS x.m x.p a b false = pointM x.m a b := fun a b => rfl
      simp only [hps] at HPt
      obtain ⟨F, hF⟩ : ∃ F, F = pointM x.m := ⟨_, rfl⟩
      rw [← hF] at HY3 HPt
      unfold vP at HPt
      clear hps hF f1 f2 f3 f4 HY hfx hm
      go_wp2_with fail
      go_loopw [12, 13] (fun s12 s13 wr => ∃ (i : Nat) (A : Option Addr) (c : Nat), i ≤ 4 ∧ s12 = .slice A i c ∧ s13 = .int .i64 (i : Int) ∧ Hid (∀ j, j < i → rcE F u v wd ht j = 0) ∧
        wr.ownsRow w0.heap.size 42 5 (.slice A i c) i (sgs (rcL F u v wd ht i)) ∧ Below w0.heap.size w0 wr) (fun _ s13 _ => 4 - (intOf s13).toNat)
      case atStart => exact ⟨0, none, 0, by omega, rfl, rfl, Lib.hid (fun j hj => by omega), own_nil, G2⟩
      case round =>
        obtain ⟨wo, rfl⟩ : ∃ wo : World, wo = wr := ⟨_, rfl⟩
        obtain ⟨i, A, c, hi, rfl, rfl, hprev, hown, hbo⟩ := hrel
        have hc : i = 0 ∨ i = 1 ∨ i = 2 ∨ i = 3 ∨ i = 4 := by omega
        rcases hc with rfl | rfl | rfl | rfl | rfl
        · have hE := rcE_ref (F := F) (wd := wd) (ht := ht) HFU.out HFV.out (show 0 < 4 by omega) hprev.out
          have hrx : rcX u wd 0 = u := by simp [rcX]
          have hry : rcY v ht 0 = v := by simp [rcY]
          have hre : rcE F u v wd ht 0 = if (fixB (u) && fixB (v)) = false then 2 else (F (u) (v)).2.2 := by
            rw [hrx, hry] at hE
            unfold rcE
            rw [hrx, hry, hE]
            cases ((decide (0 < 0) && !fixB (u + wd)) || (decide (1 < 0) && !fixB (v + ht))) <;> simp
          have hsg : rcSeg F u v wd ht 0 = ⟨1, (F (u) (v)).1, (F (u) (v)).2.1, 0, 0⟩ := by unfold rcSeg; rw [hrx, hry]; rfl
          have HRE := Lib.hid hre
          have HSG := Lib.hid hsg
          clear hE hrx hry hre hsg
          go_wp2_with fail
          refine (rFixes_any _ 2 _ [u, v] _ (by omega) (sl_new (w := wo) (t := 3) (ints [u, v]) rfl rfl)).mono ?_; rintro e w' ⟨rfl, rfl⟩
          have G5 := bal hbo (.cells (ints [u, v]).toArray 3)
          have B5 := btr hB0 G5
          have own5 := own_below hown (bal (Below.refl _ _) (.cells (ints [u, v]).toArray 3))
          obtain ⟨w5, hw5⟩ : ∃ w5, w5 = wo.alloc (.cells (ints [u, v]).toArray 3) := ⟨_, rfl⟩
          rw [← hw5] at G5 B5 own5 ⊢
          clear hw5 hown hbo
          have hall : [u, v].all fixB = (fixB (u) && fixB (v)) := by simp
          rw [hall]
          clear hall
          cases hfx : (fixB (u) && fixB (v))
          · have he2 : rcE F u v wd ht 0 = 2 := by rw [HRE.out, hfx]; rfl
            have hfe : firstE (rcE F u v wd ht) = 2 := by rw [firstE_at (show 0 < 4 by omega) hprev.out (by rw [he2]; omega), he2]
            have HY2 : Hid (Y = (zeroS, 2)) := Lib.hid (by rw [HY3.out, hfe]; rfl)
            clear he2 hfe own5
            have hF := (HR.out.below G5).putAll (stC zeroS (.slice none 0 0) (.slice none 0 0) (.slice none 0 0)) rfl
            have hFB := below_setCells (Nat.le_succ w.heap.size) (stC zeroS (.slice none 0 0) (.slice none 0 0) (.slice none 0 0)) 0 _ (B5)
            go_wp2_with (first
              | (refine wpList_store_rec rfl _ _ _ rfl (w.heap.size + 1) (stC zeroS (.slice none 0 0) (.slice none 0 0) (.slice none 0 0)) _ rfl rfl 24 stT (HR.out.below G5) rfl rfl zero_one ?_)
              | fail)
            try rw [Exit.noGoto_ret]
            refine bodyPost_ret (result_rec rfl rfl rfl stT hF rfl) rfl ?_
            rw [HY2.out]
            exact ⟨_, _, _, rfl, RefOut.zero, hFB⟩
          · have HRE2 : Hid (rcE F u v wd ht 0 = (F (u) (v)).2.2) := Lib.hid (by rw [HRE.out, hfx]; rfl)
            clear hfx HRE
            have A5 := HA.out.below G5
            have HPQ := Lib.hid (HPt.out (u) (v) w5 G5)
            obtain ⟨⟨px, py, pe⟩, hq⟩ : ∃ p, F (u) (v) = p := ⟨_, rfl⟩
            rw [hq] at HPQ HRE2 HSG
            simp only at HPQ HRE2 HSG
            clear hq
            go_wp2_with (first
              | (refine wpList_load_rec rfl _ _ rfl w.heap.size rfl _ 24 stT A5 rfl ?_)
              | fail)
            refine HPQ.out.mono ?_; rintro e w6 ⟨rfl, hb6⟩
            have G6 := btr G5 hb6
            have B6 := btr B5 hb6
            have own6 := own_below own5 hb6
            clear own5 hb6 A5 HPQ
            by_cases hpe : pe = 0
            · subst hpe
              have HPREV : Hid (∀ j, j < 0 + 1 → rcE F u v wd ht j = 0) := Lib.hid (fun j hj => by
                rcases Nat.lt_or_ge j 0 with h | h
                · exact hprev.out j h
                · obtain rfl : j = 0 := by omega
                  exact HRE2.out)
              have sz6 := G6.size
              go_wp2_with (first
                | (at_builtin; refine wpList_app rfl _ _ 26 rfl w0.heap.size sgT rfl (own_below own6 (bal (Below.refl _ _) _)) (sgc ⟨1, px, py, 0, 0⟩) rfl (sl_newN _ (by simp) rfl) (oneCell_sgc _) (by omega) (by simp; omega) ?_; intro A7 c7 w7 hown7 hg7 hat7)
                | fail)
              have G7 := grown_below (bal G6 _) hg7 (own_below own6 (bal (Below.refl _ _) _))
              have hown8 : w7.ownsRow w0.heap.size 42 5 (.slice A7 (0 + 1) c7) (0 + 1) (sgs (rcL F u v wd ht (0 + 1))) := by
                rw [rcL_succ, HSG.out, sgs_app]
                exact hown7
              go_roundw
              case rel => exact ⟨0 + 1, A7, c7, by omega, rfl, by go_num, HPREV, hown8, G7⟩
              case measure => simp [intOf]
            · have hfe : firstE (rcE F u v wd ht) = pe := by rw [firstE_at (show 0 < 4 by omega) hprev.out (by rw [HRE2.out]; exact hpe), HRE2.out]
              have HY2 : Hid (Y = (zeroS, pe)) := Lib.hid (by rw [HY3.out, hfe]; simp [hpe])
              have he0 : (pe == 0) = false := by simp [hpe]
              clear hfe own6
              have hF := (HR.out.below G6).putAll (stC zeroS (.slice none 0 0) (.slice none 0 0) (.slice none 0 0)) rfl
              have hFB := below_setCells (Nat.le_succ w.heap.size) (stC zeroS (.slice none 0 0) (.slice none 0 0) (.slice none 0 0)) 0 _ (B6)
              go_wp2_with (first
                | (refine wpList_store_rec rfl _ _ _ rfl (w.heap.size + 1) (stC zeroS (.slice none 0 0) (.slice none 0 0) (.slice none 0 0)) _ rfl rfl 24 stT (HR.out.below G6) rfl rfl zero_one ?_)
                | fail)
              try rw [Exit.noGoto_ret]
              refine bodyPost_ret (result_rec rfl rfl rfl stT hF rfl) rfl ?_
              rw [HY2.out]
              exact ⟨_, _, _, rfl, RefOut.zero, hFB⟩
        · have hE := rcE_ref (F := F) (wd := wd) (ht := ht) HFU.out HFV.out (show 1 < 4 by omega) hprev.out
          have hrx : rcX u wd 1 = u + wd := by simp [rcX]
          have hry : rcY v ht 1 = v := by simp [rcY]
          have hre : rcE F u v wd ht 1 = if (fixB (u + wd) && fixB (v)) = false then 2 else (F (u + wd) (v)).2.2 := by
            rw [hrx, hry] at hE
            unfold rcE
            rw [hrx, hry, hE]
            cases ((decide (0 < 1) && !fixB (u + wd)) || (decide (1 < 1) && !fixB (v + ht))) <;> simp
          have hsg : rcSeg F u v wd ht 1 = ⟨2, (F (u + wd) (v)).1, (F (u + wd) (v)).2.1, 0, 0⟩ := by unfold rcSeg; rw [hrx, hry]; rfl
          have HRE := Lib.hid hre
          have HSG := Lib.hid hsg
          clear hE hrx hry hre hsg
          go_wp2_with fail
          refine (rFixes_any _ 2 _ [u + wd, v] _ (by omega) (sl_new (w := wo) (t := 3) (ints [u + wd, v]) rfl rfl)).mono ?_; rintro e w' ⟨rfl, rfl⟩
          have G5 := bal hbo (.cells (ints [u + wd, v]).toArray 3)
          have B5 := btr hB0 G5
          have own5 := own_below hown (bal (Below.refl _ _) (.cells (ints [u + wd, v]).toArray 3))
          obtain ⟨w5, hw5⟩ : ∃ w5, w5 = wo.alloc (.cells (ints [u + wd, v]).toArray 3) := ⟨_, rfl⟩
          rw [← hw5] at G5 B5 own5 ⊢
          clear hw5 hown hbo
          have hall : [u + wd, v].all fixB = (fixB (u + wd) && fixB (v)) := by simp
          rw [hall]
          clear hall
          cases hfx : (fixB (u + wd) && fixB (v))
          · have he2 : rcE F u v wd ht 1 = 2 := by rw [HRE.out, hfx]; rfl
            have hfe : firstE (rcE F u v wd ht) = 2 := by rw [firstE_at (show 1 < 4 by omega) hprev.out (by rw [he2]; omega), he2]
            have HY2 : Hid (Y = (zeroS, 2)) := Lib.hid (by rw [HY3.out, hfe]; rfl)
            clear he2 hfe own5
            have hF := (HR.out.below G5).putAll (stC zeroS (.slice none 0 0) (.slice none 0 0) (.slice none 0 0)) rfl
            have hFB := below_setCells (Nat.le_succ w.heap.size) (stC zeroS (.slice none 0 0) (.slice none 0 0) (.slice none 0 0)) 0 _ (B5)
            go_wp2_with (first
              | (refine wpList_store_rec rfl _ _ _ rfl (w.heap.size + 1) (stC zeroS (.slice none 0 0) (.slice none 0 0) (.slice none 0 0)) _ rfl rfl 24 stT (HR.out.below G5) rfl rfl zero_one ?_)
              | fail)
            try rw [Exit.noGoto_ret]
            refine bodyPost_ret (result_rec rfl rfl rfl stT hF rfl) rfl ?_
            rw [HY2.out]
            exact ⟨_, _, _, rfl, RefOut.zero, hFB⟩
          · have HRE2 : Hid (rcE F u v wd ht 1 = (F (u + wd) (v)).2.2) := Lib.hid (by rw [HRE.out, hfx]; rfl)
            clear hfx HRE
            have A5 := HA.out.below G5
            have HPQ := Lib.hid (HPt.out (u + wd) (v) w5 G5)
            obtain ⟨⟨px, py, pe⟩, hq⟩ : ∃ p, F (u + wd) (v) = p := ⟨_, rfl⟩
            rw [hq] at HPQ HRE2 HSG
            simp only at HPQ HRE2 HSG
            clear hq
            go_wp2_with (first
              | (refine wpList_load_rec rfl _ _ rfl w.heap.size rfl _ 24 stT A5 rfl ?_)
              | fail)
            refine HPQ.out.mono ?_; rintro e w6 ⟨rfl, hb6⟩
            have G6 := btr G5 hb6
            have B6 := btr B5 hb6
            have own6 := own_below own5 hb6
            clear own5 hb6 A5 HPQ
            by_cases hpe : pe = 0
            · subst hpe
              have HPREV : Hid (∀ j, j < 1 + 1 → rcE F u v wd ht j = 0) := Lib.hid (fun j hj => by
                rcases Nat.lt_or_ge j 1 with h | h
                · exact hprev.out j h
                · obtain rfl : j = 1 := by omega
                  exact HRE2.out)
              have sz6 := G6.size
              go_wp2_with (first
                | (at_builtin; refine wpList_app rfl _ _ 26 rfl w0.heap.size sgT rfl (own_below own6 (bal (Below.refl _ _) _)) (sgc ⟨2, px, py, 0, 0⟩) rfl (sl_newN _ (by simp) rfl) (oneCell_sgc _) (by omega) (by simp; omega) ?_; intro A7 c7 w7 hown7 hg7 hat7)
                | fail)
              have G7 := grown_below (bal G6 _) hg7 (own_below own6 (bal (Below.refl _ _) _))
              have hown8 : w7.ownsRow w0.heap.size 42 5 (.slice A7 (1 + 1) c7) (1 + 1) (sgs (rcL F u v wd ht (1 + 1))) := by
                rw [rcL_succ, HSG.out, sgs_app]
                exact hown7
              go_roundw
              case rel => exact ⟨1 + 1, A7, c7, by omega, rfl, by go_num, HPREV, hown8, G7⟩
              case measure => simp [intOf]
            · have hfe : firstE (rcE F u v wd ht) = pe := by rw [firstE_at (show 1 < 4 by omega) hprev.out (by rw [HRE2.out]; exact hpe), HRE2.out]
              have HY2 : Hid (Y = (zeroS, pe)) := Lib.hid (by rw [HY3.out, hfe]; simp [hpe])
              have he0 : (pe == 0) = false := by simp [hpe]
              clear hfe own6
              have hF := (HR.out.below G6).putAll (stC zeroS (.slice none 0 0) (.slice none 0 0) (.slice none 0 0)) rfl
              have hFB := below_setCells (Nat.le_succ w.heap.size) (stC zeroS (.slice none 0 0) (.slice none 0 0) (.slice none 0 0)) 0 _ (B6)
              go_wp2_with (first
                | (refine wpList_store_rec rfl _ _ _ rfl (w.heap.size + 1) (stC zeroS (.slice none 0 0) (.slice none 0 0) (.slice none 0 0)) _ rfl rfl 24 stT (HR.out.below G6) rfl rfl zero_one ?_)
                | fail)
              try rw [Exit.noGoto_ret]
              refine bodyPost_ret (result_rec rfl rfl rfl stT hF rfl) rfl ?_
              rw [HY2.out]
              exact ⟨_, _, _, rfl, RefOut.zero, hFB⟩
        · have hE := rcE_ref (F := F) (wd := wd) (ht := ht) HFU.out HFV.out (show 2 < 4 by omega) hprev.out
          have hrx : rcX u wd 2 = u + wd := by simp [rcX]
          have hry : rcY v ht 2 = v + ht := by simp [rcY]
          have hre : rcE F u v wd ht 2 = if (fixB (u + wd) && fixB (v + ht)) = false then 2 else (F (u + wd) (v + ht)).2.2 := by
            rw [hrx, hry] at hE
            unfold rcE
            rw [hrx, hry, hE]
            cases ((decide (0 < 2) && !fixB (u + wd)) || (decide (1 < 2) && !fixB (v + ht))) <;> simp
          have hsg : rcSeg F u v wd ht 2 = ⟨2, (F (u + wd) (v + ht)).1, (F (u + wd) (v + ht)).2.1, 0, 0⟩ := by unfold rcSeg; rw [hrx, hry]; rfl
          have HRE := Lib.hid hre
          have HSG := Lib.hid hsg
          clear hE hrx hry hre hsg
          go_wp2_with fail
          refine (rFixes_any _ 2 _ [u + wd, v + ht] _ (by omega) (sl_new (w := wo) (t := 3) (ints [u + wd, v + ht]) rfl rfl)).mono ?_; rintro e w' ⟨rfl, rfl⟩
          have G5 := bal hbo (.cells (ints [u + wd, v + ht]).toArray 3)
          have B5 := btr hB0 G5
          have own5 := own_below hown (bal (Below.refl _ _) (.cells (ints [u + wd, v + ht]).toArray 3))
          obtain ⟨w5, hw5⟩ : ∃ w5, w5 = wo.alloc (.cells (ints [u + wd, v + ht]).toArray 3) := ⟨_, rfl⟩
          rw [← hw5] at G5 B5 own5 ⊢
          clear hw5 hown hbo
          have hall : [u + wd, v + ht].all fixB = (fixB (u + wd) && fixB (v + ht)) := by simp
          rw [hall]
          clear hall
          cases hfx : (fixB (u + wd) && fixB (v + ht))
          · have he2 : rcE F u v wd ht 2 = 2 := by rw [HRE.out, hfx]; rfl
            have hfe : firstE (rcE F u v wd ht) = 2 := by rw [firstE_at (show 2 < 4 by omega) hprev.out (by rw [he2]; omega), he2]
            have HY2 : Hid (Y = (zeroS, 2)) := Lib.hid (by rw [HY3.out, hfe]; rfl)
            clear he2 hfe own5
            have hF := (HR.out.below G5).putAll (stC zeroS (.slice none 0 0) (.slice none 0 0) (.slice none 0 0)) rfl
            have hFB := below_setCells (Nat.le_succ w.heap.size) (stC zeroS (.slice none 0 0) (.slice none 0 0) (.slice none 0 0)) 0 _ (B5)
            go_wp2_with (first
              | (refine wpList_store_rec rfl _ _ _ rfl (w.heap.size + 1) (stC zeroS (.slice none 0 0) (.slice none 0 0) (.slice none 0 0)) _ rfl rfl 24 stT (HR.out.below G5) rfl rfl zero_one ?_)
              | fail)
            try rw [Exit.noGoto_ret]
            refine bodyPost_ret (result_rec rfl rfl rfl stT hF rfl) rfl ?_
            rw [HY2.out]
            exact ⟨_, _, _, rfl, RefOut.zero, hFB⟩
          · have HRE2 : Hid (rcE F u v wd ht 2 = (F (u + wd) (v + ht)).2.2) := Lib.hid (by rw [HRE.out, hfx]; rfl)
            clear hfx HRE
            have A5 := HA.out.below G5
            have HPQ := Lib.hid (HPt.out (u + wd) (v + ht) w5 G5)
            obtain ⟨⟨px, py, pe⟩, hq⟩ : ∃ p, F (u + wd) (v + ht) = p := ⟨_, rfl⟩
            rw [hq] at HPQ HRE2 HSG
            simp only at HPQ HRE2 HSG
            clear hq
            go_wp2_with (first
              | (refine wpList_load_rec rfl _ _ rfl w.heap.size rfl _ 24 stT A5 rfl ?_)
              | fail)
            refine HPQ.out.mono ?_; rintro e w6 ⟨rfl, hb6⟩
            have G6 := btr G5 hb6
            have B6 := btr B5 hb6
            have own6 := own_below own5 hb6
            clear own5 hb6 A5 HPQ
            by_cases hpe : pe = 0
            · subst hpe
              have HPREV : Hid (∀ j, j < 2 + 1 → rcE F u v wd ht j = 0) := Lib.hid (fun j hj => by
                rcases Nat.lt_or_ge j 2 with h | h
                · exact hprev.out j h
                · obtain rfl : j = 2 := by omega
                  exact HRE2.out)
              have sz6 := G6.size
              go_wp2_with (first
                | (at_builtin; refine wpList_app rfl _ _ 26 rfl w0.heap.size sgT rfl (own_below own6 (bal (Below.refl _ _) _)) (sgc ⟨2, px, py, 0, 0⟩) rfl (sl_newN _ (by simp) rfl) (oneCell_sgc _) (by omega) (by simp; omega) ?_; intro A7 c7 w7 hown7 hg7 hat7)
                | fail)
              have G7 := grown_below (bal G6 _) hg7 (own_below own6 (bal (Below.refl _ _) _))
              have hown8 : w7.ownsRow w0.heap.size 42 5 (.slice A7 (2 + 1) c7) (2 + 1) (sgs (rcL F u v wd ht (2 + 1))) := by
                rw [rcL_succ, HSG.out, sgs_app]
                exact hown7
              go_roundw
              case rel => exact ⟨2 + 1, A7, c7, by omega, rfl, by go_num, HPREV, hown8, G7⟩
              case measure => simp [intOf]
            · have hfe : firstE (rcE F u v wd ht) = pe := by rw [firstE_at (show 2 < 4 by omega) hprev.out (by rw [HRE2.out]; exact hpe), HRE2.out]
              have HY2 : Hid (Y = (zeroS, pe)) := Lib.hid (by rw [HY3.out, hfe]; simp [hpe])
              have he0 : (pe == 0) = false := by simp [hpe]
              clear hfe own6
              have hF := (HR.out.below G6).putAll (stC zeroS (.slice none 0 0) (.slice none 0 0) (.slice none 0 0)) rfl
              have hFB := below_setCells (Nat.le_succ w.heap.size) (stC zeroS (.slice none 0 0) (.slice none 0 0) (.slice none 0 0)) 0 _ (B6)
              go_wp2_with (first
                | (refine wpList_store_rec rfl _ _ _ rfl (w.heap.size + 1) (stC zeroS (.slice none 0 0) (.slice none 0 0) (.slice none 0 0)) _ rfl rfl 24 stT (HR.out.below G6) rfl rfl zero_one ?_)
                | fail)
              try rw [Exit.noGoto_ret]
              refine bodyPost_ret (result_rec rfl rfl rfl stT hF rfl) rfl ?_
              rw [HY2.out]
              exact ⟨_, _, _, rfl, RefOut.zero, hFB⟩
        · have hE := rcE_ref (F := F) (wd := wd) (ht := ht) HFU.out HFV.out (show 3 < 4 by omega) hprev.out
          have hrx : rcX u wd 3 = u := by simp [rcX]
          have hry : rcY v ht 3 = v + ht := by simp [rcY]
          have hre : rcE F u v wd ht 3 = if (fixB (u) && fixB (v + ht)) = false then 2 else (F (u) (v + ht)).2.2 := by
            rw [hrx, hry] at hE
            unfold rcE
            rw [hrx, hry, hE]
            cases ((decide (0 < 3) && !fixB (u + wd)) || (decide (1 < 3) && !fixB (v + ht))) <;> simp
          have hsg : rcSeg F u v wd ht 3 = ⟨2, (F (u) (v + ht)).1, (F (u) (v + ht)).2.1, 0, 0⟩ := by unfold rcSeg; rw [hrx, hry]; rfl
          have HRE := Lib.hid hre
          have HSG := Lib.hid hsg
          clear hE hrx hry hre hsg
          go_wp2_with fail
          refine (rFixes_any _ 2 _ [u, v + ht] _ (by omega) (sl_new (w := wo) (t := 3) (ints [u, v + ht]) rfl rfl)).mono ?_; rintro e w' ⟨rfl, rfl⟩
          have G5 := bal hbo (.cells (ints [u, v + ht]).toArray 3)
          have B5 := btr hB0 G5
          have own5 := own_below hown (bal (Below.refl _ _) (.cells (ints [u, v + ht]).toArray 3))
          obtain ⟨w5, hw5⟩ : ∃ w5, w5 = wo.alloc (.cells (ints [u, v + ht]).toArray 3) := ⟨_, rfl⟩
          rw [← hw5] at G5 B5 own5 ⊢
          clear hw5 hown hbo
          have hall : [u, v + ht].all fixB = (fixB (u) && fixB (v + ht)) := by simp
          rw [hall]
          clear hall
          cases hfx : (fixB (u) && fixB (v + ht))
          · have he2 : rcE F u v wd ht 3 = 2 := by rw [HRE.out, hfx]; rfl
            have hfe : firstE (rcE F u v wd ht) = 2 := by rw [firstE_at (show 3 < 4 by omega) hprev.out (by rw [he2]; omega), he2]
            have HY2 : Hid (Y = (zeroS, 2)) := Lib.hid (by rw [HY3.out, hfe]; rfl)
            clear he2 hfe own5
            have hF := (HR.out.below G5).putAll (stC zeroS (.slice none 0 0) (.slice none 0 0) (.slice none 0 0)) rfl
            have hFB := below_setCells (Nat.le_succ w.heap.size) (stC zeroS (.slice none 0 0) (.slice none 0 0) (.slice none 0 0)) 0 _ (B5)
            go_wp2_with (first
              | (refine wpList_store_rec rfl _ _ _ rfl (w.heap.size + 1) (stC zeroS (.slice none 0 0) (.slice none 0 0) (.slice none 0 0)) _ rfl rfl 24 stT (HR.out.below G5) rfl rfl zero_one ?_)
              | fail)
            try rw [Exit.noGoto_ret]
            refine bodyPost_ret (result_rec rfl rfl rfl stT hF rfl) rfl ?_
            rw [HY2.out]
            exact ⟨_, _, _, rfl, RefOut.zero, hFB⟩
          · have HRE2 : Hid (rcE F u v wd ht 3 = (F (u) (v + ht)).2.2) := Lib.hid (by rw [HRE.out, hfx]; rfl)
            clear hfx HRE
            have A5 := HA.out.below G5
            have HPQ := Lib.hid (HPt.out (u) (v + ht) w5 G5)
            obtain ⟨⟨px, py, pe⟩, hq⟩ : ∃ p, F (u) (v + ht) = p := ⟨_, rfl⟩
            rw [hq] at HPQ HRE2 HSG
            simp only at HPQ HRE2 HSG
            clear hq
            go_wp2_with (first
              | (refine wpList_load_rec rfl _ _ rfl w.heap.size rfl _ 24 stT A5 rfl ?_)
              | fail)
            refine HPQ.out.mono ?_; rintro e w6 ⟨rfl, hb6⟩
            have G6 := btr G5 hb6
            have B6 := btr B5 hb6
            have own6 := own_below own5 hb6
            clear own5 hb6 A5 HPQ
            by_cases hpe : pe = 0
            · subst hpe
              have HPREV : Hid (∀ j, j < 3 + 1 → rcE F u v wd ht j = 0) := Lib.hid (fun j hj => by
                rcases Nat.lt_or_ge j 3 with h | h
                · exact hprev.out j h
                · obtain rfl : j = 3 := by omega
                  exact HRE2.out)
              have sz6 := G6.size
              go_wp2_with (first
                | (at_builtin; refine wpList_app rfl _ _ 26 rfl w0.heap.size sgT rfl (own_below own6 (bal (Below.refl _ _) _)) (sgc ⟨2, px, py, 0, 0⟩) rfl (sl_newN _ (by simp) rfl) (oneCell_sgc _) (by omega) (by simp; omega) ?_; intro A7 c7 w7 hown7 hg7 hat7)
                | fail)
              have G7 := grown_below (bal G6 _) hg7 (own_below own6 (bal (Below.refl _ _) _))
              have hown8 : w7.ownsRow w0.heap.size 42 5 (.slice A7 (3 + 1) c7) (3 + 1) (sgs (rcL F u v wd ht (3 + 1))) := by
                rw [rcL_succ, HSG.out, sgs_app]
                exact hown7
              go_roundw
              case rel => exact ⟨3 + 1, A7, c7, by omega, rfl, by go_num, HPREV, hown8, G7⟩
              case measure => simp [intOf]
            · have hfe : firstE (rcE F u v wd ht) = pe := by rw [firstE_at (show 3 < 4 by omega) hprev.out (by rw [HRE2.out]; exact hpe), HRE2.out]
              have HY2 : Hid (Y = (zeroS, pe)) := Lib.hid (by rw [HY3.out, hfe]; simp [hpe])
              have he0 : (pe == 0) = false := by simp [hpe]
              clear hfe own6
              have hF := (HR.out.below G6).putAll (stC zeroS (.slice none 0 0) (.slice none 0 0) (.slice none 0 0)) rfl
              have hFB := below_setCells (Nat.le_succ w.heap.size) (stC zeroS (.slice none 0 0) (.slice none 0 0) (.slice none 0 0)) 0 _ (B6)
              go_wp2_with (first
                | (refine wpList_store_rec rfl _ _ _ rfl (w.heap.size + 1) (stC zeroS (.slice none 0 0) (.slice none 0 0) (.slice none 0 0)) _ rfl rfl 24 stT (HR.out.below G6) rfl rfl zero_one ?_)
                | fail)
              try rw [Exit.noGoto_ret]
              refine bodyPost_ret (result_rec rfl rfl rfl stT hF rfl) rfl ?_
              rw [HY2.out]
              exact ⟨_, _, _, rfl, RefOut.zero, hFB⟩
        · have HY5 : Hid (Y = withS x (joinL x.p (rcL F u v wd ht 4 ++ [⟨4, 0, 0, 0, 0⟩]))) := Lib.hid (by rw [HY3.out, firstE_none hprev.out]; simp)
          obtain ⟨E, hE⟩ : ∃ E, joinL x.p (rcL F u v wd ht 4 ++ [⟨4, 0, 0, 0, 0⟩]) = E := ⟨_, rfl⟩
          have HY4 : Hid (Y = withS x E) := Lib.hid (by rw [HY5.out, hE])
          have hlen : E.1.length ≤ 300 := by rw [← hE]; exact joinL_le _ _
          have HE := Lib.hid hE
          clear hE HY5 HY3 hprev
          go_wp2_with fail
          have a6 := fun q : Grown w0 => q.cell (HA.out.c 6 _ rfl) HA.out.lt
          have HOW := Lib.hid hown
          refine wp_region_ord (fun W => ∃ y : Grown w0, W = y.world) [] 12 (by kernel_rfl) (by kernel_rfl) ⟨⟨_, bdrew hbo⟩, rfl⟩ ?_
          intro hS
          refine ord_take (v := ?_) 0 rfl rfl (by kernel_rfl) (by kernel_rfl) (fun _ _ _ h => h) (Or.inl ⟨by rfl, ?_⟩) hS ?_
          rotate_left
          · rintro W ⟨y, rfl⟩
            go_simp
            (try with_reducible rfl)
          simp only [Act.put, List.setIfInBounds_toArray, List.set_cons_zero, List.set_cons_succ]
          refine ord_take (v := ?_) 1 rfl rfl (by kernel_rfl) (by kernel_rfl) (fun _ _ _ h => h) (Or.inl ⟨by rfl, ?_⟩) hS ?_
          rotate_left
          · rintro W ⟨y, rfl⟩
            go_simp
            (try with_reducible rfl)
          simp only [Act.put, List.setIfInBounds_toArray, List.set_cons_zero, List.set_cons_succ]
          refine ord_take (v := ?_) 2 rfl rfl (by kernel_rfl) (by kernel_rfl) (fun _ _ _ h => h) (Or.inl ⟨by rfl, ?_⟩) hS ?_
          rotate_left
          · rintro W ⟨y, rfl⟩
            go_simp
            (try with_reducible rfl)
          simp only [Act.put, List.setIfInBounds_toArray, List.set_cons_zero, List.set_cons_succ]
          refine ord_take (v := ?_) 3 rfl rfl (by kernel_rfl) (by kernel_rfl) (fun _ _ _ h => h) (Or.inl ⟨by rfl, ?_⟩) hS ?_
          rotate_left
          · rintro W ⟨y, rfl⟩
            go_simp
            (try with_reducible rfl)
          simp only [Act.put, List.setIfInBounds_toArray, List.set_cons_zero, List.set_cons_succ]
          clear a6 hown
          have HG := Lib.hid (fun (W : World) (hW : Below w0.heap.size w0 W) => (⟨⟨W, hW⟩, rfl⟩ : ∃ y : Grown w0, W = y.world))
          clear hS
          have q1 := bal (bdrew (Below.refl wo.heap.size wo)) (.cells (sgc ⟨4, 0, 0, 0, 0⟩).toArray 42)
          refine ord_one 4 rfl (by kernel_rfl) rfl ?_
          intro K hK
          go_simp
          refine hK.out _ _ (HG.out _ (btr hbo q1)) ?_
          clear hK K
          try simp only
          have q2 := own_below HOW.out q1
          have z2 := Nat.le_trans hbo.size q1.size
          refine ord_one 5 rfl (by kernel_rfl) rfl ?_
          intro K hK
          refine step_app (by rfl) _ _ 26 (by rfl) w0.heap.size sgT (by rfl) q2 (sgc ⟨4, 0, 0, 0, 0⟩) (by rfl) (sl_newN _ (by simp) rfl) (oneCell_sgc _) (by omega) z2 ?_
          intro A5 c5 w5 hown5 hg5 hat5
          have b5 := grown_below (btr hbo q1) hg5 q2
          refine hK.out _ _ (HG.out _ b5) ?_
          clear hK K
          try simp only
          have hjs : Sl w5 5 A5 5 (sgs (rcL F u v wd ht 4 ++ [⟨4, 0, 0, 0, 0⟩])) := by rw [sgs_app]; exact own_sl hown5
          have G3 := b5
          have B3 := btr hB0 G3
          have c6 := (HA.out.below G3).c 6 _ rfl
          clear q1 q2 z2 hown5 hg5 hat5
          refine ord_one 6 rfl (by kernel_rfl) rfl ?_
          intro K hK
          go_simp
          refine (ref_Join_any Ap A5 np cp 5 c5 x.p _ E _ (by omega) (by omega) hpc (HP.out.below G3) hjs HE.out).mono ?_; rintro e w4 ⟨A4', c4', rfl, ho4, hb4⟩
          obtain ⟨w3, hw3⟩ : ∃ w3, w3 = w5 := ⟨_, rfl⟩
          rw [← hw3] at G3 B3 ho4 hb4 c6
          refine hK.out _ _ (HG.out _ (btr G3 hb4)) ?_
          clear hK K hw3 hjs b5 HOW
          try simp only
          have hS := HG.out _ (btr G3 hb4)
          refine ord_take (v := ?_) 7 rfl rfl (by kernel_rfl) (by kernel_rfl) (fun _ _ _ h => h) (Or.inl ⟨by rfl, ?_⟩) hS ?_
          rotate_left
          · rintro W ⟨y, rfl⟩
            go_simp
            (try with_reducible rfl)
          simp only [Act.put, List.setIfInBounds_toArray, List.set_cons_zero, List.set_cons_succ]
          refine ord_take (v := ?_) 8 rfl rfl (by kernel_rfl) (by kernel_rfl) (fun _ _ _ h => h) (Or.inl ⟨by rfl, ?_⟩) hS ?_
          rotate_left
          · rintro W ⟨y, rfl⟩
            go_simp
            (try with_reducible rfl)
          simp only [Act.put, List.setIfInBounds_toArray, List.set_cons_zero, List.set_cons_succ]
          refine ord_take (v := ?_) 9 rfl rfl (by kernel_rfl) (by kernel_rfl) (fun _ _ _ h => h) (Or.inl ⟨by rfl, ?_⟩) hS ?_
          rotate_left
          · rintro W ⟨y, rfl⟩
            go_simp
            (try with_reducible rfl)
          simp only [Act.put, List.setIfInBounds_toArray, List.set_cons_zero, List.set_cons_succ]
          refine ord_take (v := ?_) 10 rfl rfl (by kernel_rfl) (by kernel_rfl) (fun _ _ _ h => h) (Or.inl ⟨by rfl, ?_⟩) hS ?_
          rotate_left
          · rintro W ⟨y, rfl⟩
            go_simp
            (try with_reducible rfl)
          simp only [Act.put, List.setIfInBounds_toArray, List.set_cons_zero, List.set_cons_succ]
          refine ord_take (v := ?_) 11 rfl rfl (by kernel_rfl) (by kernel_rfl) (fun _ _ _ h => h) (Or.inl ⟨by rfl, ?_⟩) hS ?_
          rotate_left
          · rintro W ⟨y, rfl⟩
            go_simp
            (try with_reducible rfl)
          simp only [Act.put, List.setIfInBounds_toArray, List.set_cons_zero, List.set_cons_succ]
          clear hS HG
          refine ⟨by kernel_rfl, ?_⟩
          refine NoPanic.normal ?_
          have G4 := btr G3 hb4
          have B4 := btr B3 hb4
          have A4 := HA.out.below G4
          have hz3 : w0.heap.size ≤ w3.heap.size := G3.size
          obtain ⟨l, le⟩ := E
          simp only at hlen HY4 ho4 ⊢
          obtain ⟨nl, hnl⟩ : ∃ n, n = l.length := ⟨_, rfl⟩
          rw [← hnl] at hlen ⊢
          have HNL := Lib.hid hnl
          have HO4 := Lib.hid ho4
          have HWN := Lib.hid fun (he : le ≠ 0) W (hb : Below w0.heap.size w0 W) => rWith_no x (.slice Ap np cp) C D A4' nl c4' le W (H0.out.below hb) he
          have HWO := Lib.hid fun W (hb : Below w4.heap.size w4 W) => rWith_ok x (.slice Ap np cp) C D A4' nl c4' l W (H0.out.below (btr G4 hb))
          clear c6 hb4 hnl ho4
          go_wp2_with (first
            | (refine wpList_load_rec rfl _ _ rfl w.heap.size rfl _ 24 stT A4 rfl ?_)
            | fail)
          by_cases hle : le = 0
          · subst hle
            have HY2 : Hid (Y = ({ x with p := l }, 0)) := Lib.hid (by rw [HY4.out]; simp [withS])
            refine (HWO.out _ (Below.refl _ _)).mono ?_; rintro e w5 ⟨rfl, hb5⟩
            have G5 := btr G4 hb5
            have B5 := btr B4 hb5
            have R5 := HR.out.below G5
            have hone : ∀ v ∈ stC { x with p := l } (.slice A4' nl c4') C D, v.oneCell' = true := by
              obtain ⟨-, ⟨_, _, rfl, _⟩, ⟨_, _, rfl, _⟩⟩ := H0.out
              exact stC_one rfl rfl rfl
            have hF := R5.putAll (stC { x with p := l } (.slice A4' nl c4') C D) rfl
            have hFB := below_setCells (Nat.le_succ w.heap.size) (stC { x with p := l } (.slice A4' nl c4') C D) 0 _ B5
            have hoF := own_setCells (show w.heap.size + 1 < w3.heap.size by omega) (stC { x with p := l } (.slice A4' nl c4') C D) 0 _ (own_below HO4.out hb5)
            go_wp2_with (first
              | (refine wpList_store_rec rfl _ _ _ rfl (w.heap.size + 1) (stC { x with p := l } (.slice A4' nl c4') C D) _ rfl rfl 24 stT R5 rfl rfl hone ?_)
              | fail)
            refine bodyPost_ret (result_rec rfl rfl rfl stT hF rfl) rfl ?_
            rw [HY2.out]
            refine ⟨_, C, D, rfl, ⟨?_, .inl ⟨rfl, rfl, rfl, rfl⟩⟩, hFB⟩
            have := HNL.out
            subst this
            exact own_mono hoF (by have := B3.size; omega)
          · have HY2 : Hid (Y = (zeroS, le)) := Lib.hid (by rw [HY4.out]; simp [withS, hle])
            refine (HWN.out hle _ G4).mono ?_; rintro e w5 ⟨rfl, hb5⟩
            have G5 := btr G4 hb5
            have B5 := btr B4 hb5
            clear hle
            have hF := (HR.out.below G5).putAll (stC zeroS (.slice none 0 0) (.slice none 0 0) (.slice none 0 0)) rfl
            have hFB := below_setCells (Nat.le_succ w.heap.size) (stC zeroS (.slice none 0 0) (.slice none 0 0) (.slice none 0 0)) 0 _ (B5)
            go_wp2_with (first
              | (refine wpList_store_rec rfl _ _ _ rfl (w.heap.size + 1) (stC zeroS (.slice none 0 0) (.slice none 0 0) (.slice none 0 0)) _ rfl rfl 24 stT (HR.out.below G5) rfl rfl zero_one ?_)
              | fail)
            try rw [Exit.noGoto_ret]
            refine bodyPost_ret (result_rec rfl rfl rfl stT hF rfl) rfl ?_
            rw [HY2.out]
            exact ⟨_, _, _, rfl, RefOut.zero, hFB⟩
end Go.Proofs.Ytaadajadeemndaa
