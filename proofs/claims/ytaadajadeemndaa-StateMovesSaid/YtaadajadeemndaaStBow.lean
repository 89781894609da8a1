/- state.Bow, Shut. -/
import Derived.Test.YtaadajadeemndaaSt9
namespace Go.Proofs.Ytaadajadeemndaa
open Go.RowKit Go.BigFrame

/-- With another path, unless that is none. -/
def withS (x : St) (E : List Sg × Int) : St × Int := if E.2 ≠ 0 then (zeroS, E.2) else ({ x with p := E.1 }, 0)
def bowS (x : St) (cu cv u v : Int) (d : Bool) : St × Int :=
  if (mayS x && [cu, cv, u, v].all fixB) = false then (zeroS, 1)
  else if (pointS x.m x.p cu cv d).2.2 ≠ 0 then (zeroS, (pointS x.m x.p cu cv d).2.2)
  else if (pointS x.m x.p u v d).2.2 ≠ 0 then (zeroS, (pointS x.m x.p u v d).2.2)
  else withS x (onL x.p ⟨3, (pointS x.m x.p u v d).1, (pointS x.m x.p u v d).2.1, (pointS x.m x.p cu cv d).1, (pointS x.m x.p cu cv d).2.1⟩)
def shutS (x : St) : St × Int := if mayS x = false then (zeroS, 1) else withS x (shutL x.p)
set_option maxRecDepth 100000 in
set_option maxHeartbeats 4000000 in
theorem stShut_any (x : St) (P C D : Value) (Y : St × Int) (w : World) (h : StAt w x P C D) (hY : shutS x = Y) : Calls Try.prog 29 #[.agg (stC x P C D).toArray] w
    fun r w' => ∃ P' C' D', r = .returned (.tuple #[.agg (stC Y.1 P' C' D').toArray, .int .i64 Y.2]) ∧ StOwn w' w.heap.size Y.1 P' C' D' ∧ Below w.heap.size w w' := by
  obtain ⟨w0, hw0⟩ : ∃ w0 : World, w0 = (w.alloc (.cells (stC x P C D).toArray 34)).alloc (.cells (stC zeroS (.slice none 0 0) (.slice none 0 0) (.slice none 0 0)).toArray 34) := ⟨_, rfl⟩
  have hB0 : Below w.heap.size w w0 := by rw [hw0]; exact bal (bal (Below.refl _ _) _) _
  have hA : BC w0 w.heap.size (stC x P C D) := by rw [hw0]; exact (BC.new (stC x P C D) 34 rfl).below (bal (Below.refl _ _) _)
  have hR : BC w0 (w.heap.size + 1) (stC zeroS (.slice none 0 0) (.slice none 0 0) (.slice none 0 0)) := by rw [hw0]; exact BC.new (w := w.alloc (.cells (stC x P C D).toArray 34)) _ 34 (by simp)
  have hgA := hA.lt
  have hgR := hR.lt
  have h0 := h.below hB0
  rw [zero_lit] at hw0
  obtain ⟨Ap, cp, rfl, hp, hpc, hpm⟩ := h0.p
  obtain ⟨np, hnp⟩ : ∃ n, n = x.p.length := ⟨_, rfl⟩
  rw [← hnp] at hw0 hA hp hpc h h0 ⊢
  have HY := Lib.hid hY
  have HM := Lib.hid fun W (hb : Below w0.heap.size w0 W) => stMay_any x (.slice Ap np cp) C D W (h0.below hb)
  have H0 := Lib.hid h0
  have HP := Lib.hid hp
  have HA := Lib.hid hA
  have HR := Lib.hid hR
  have HNP := Lib.hid hnp
  clear hY h0 h hp hA hR hnp
  go_enter Try.func29, Try.ntmps29
  go_upto_region 1 with (fail)
  rw [← hw0]
  clear hw0
  go_wp2_with (first
    | (refine wpList_load_rec rfl _ _ rfl w.heap.size rfl _ 24 stT HA.out rfl ?_)
    | fail)
  refine (HM.out _ (Below.refl _ _)).mono ?_; rintro e w1 ⟨rfl, hb1⟩
  have G1 := hb1
  have B1 := btr hB0 G1
  clear hb1
  cases hm : mayS x
  · have HY2 : Hid (Y = (zeroS, 1)) := Lib.hid (by rw [← HY.out]; unfold shutS; rw [hm]; simp)
    have hF := (HR.out.below G1).putAll (stC zeroS (.slice none 0 0) (.slice none 0 0) (.slice none 0 0)) rfl
    have hFB := below_setCells (Nat.le_succ w.heap.size) (stC zeroS (.slice none 0 0) (.slice none 0 0) (.slice none 0 0)) 0 _ (B1)
    go_wp2_with (first
      | (refine wpList_load_rec rfl _ _ rfl (w.heap.size + 1) rfl _ 24 stT (HR.out.below G1) rfl ?_)
      | (refine wpList_store_rec rfl _ _ _ rfl (w.heap.size + 1) (stC zeroS (.slice none 0 0) (.slice none 0 0) (.slice none 0 0)) _ rfl rfl 24 stT (HR.out.below G1) rfl rfl zero_one ?_)
      | fail)
    refine bodyPost_ret (result_rec rfl rfl rfl stT hF rfl) rfl ?_
    rw [HY2.out]
    exact ⟨_, _, _, rfl, zero_own _ _, hFB⟩
  · have hfew := mayS_few hm
    have hnp3 : np ≤ 1000 := by rw [HNP.out]; exact hfew.1
    have HFEW := Lib.hid hfew
    clear hfew
    obtain ⟨E, hE⟩ : ∃ E, shutL x.p = E := ⟨_, rfl⟩
    have HY4 : Hid (Y = withS x E) := Lib.hid (by rw [← HY.out]; unfold shutS; rw [hm, hE]; simp)
    have hlen : E.1.length ≤ 300 := by rw [← hE]; exact shutL_le _
    have HE := Lib.hid hE
    have G3 := G1
    have B3 := B1
    have c6 := (HA.out.below G3).c 6 _ rfl
    clear hE HY G1 B1
    go_wp2_with fail
    refine (Shut_any Ap np cp x.p E _ (by omega) (HP.out.below G3) HE.out).mono ?_; rintro e w4 ⟨A4', c4', rfl, ho4, hb4⟩
    have G4 := btr G3 hb4
    have B4 := btr B3 hb4
    have A4 := HA.out.below G4
    have s4 := own_sl ho4
    obtain ⟨l, le⟩ := E
    simp only at s4 hlen HY4 ho4 ⊢
    obtain ⟨nl, hnl⟩ : ∃ n, n = l.length := ⟨_, rfl⟩
    rw [← hnl] at s4 hlen ⊢
    have HS4 := Lib.hid s4
    have HWN := Lib.hid fun (he : le ≠ 0) W (hb : Below w0.heap.size w0 W) => with_no x (.slice Ap np cp) C D A4' nl c4' le W (H0.out.below hb) he
    have HWO := Lib.hid fun W (hb : Below w4.heap.size w4 W) => with_ok x (.slice Ap np cp) C D A4' nl c4' l W (H0.out.below (btr G4 hb)) HFEW.out (HS4.out.below hb) (by omega)
    clear c6 hb4 s4 hnl ho4
    go_wp2_with (first
      | (refine wpList_load_rec rfl _ _ rfl w.heap.size rfl _ 24 stT A4 rfl ?_)
      | fail)
    by_cases hle : le = 0
    · subst hle
      have HY2 : Hid (Y = ({ x with p := l }, 0)) := Lib.hid (by rw [HY4.out]; simp [withS])
      refine (HWO.out _ (Below.refl _ _)).mono ?_; rintro e w5 ⟨P5, C5, D5, rfl, ho5, hb5⟩
      have G5 := btr G4 hb5
      have B5 := btr B4 hb5
      have R5 := HR.out.below G5
      have hone := ho5.at.one
      have ho6 := ho5.mono (show w0.heap.size ≤ w4.heap.size from G4.size)
      have hF := R5.putAll (stC { x with p := l } P5 C5 D5) rfl
      have hFB := below_setCells (Nat.le_succ w.heap.size) (stC { x with p := l } P5 C5 D5) 0 _ B5
      go_wp2_with (first
        | (refine wpList_store_rec rfl _ _ _ rfl (w.heap.size + 1) (stC { x with p := l } P5 C5 D5) _ rfl rfl 24 stT R5 rfl rfl hone ?_)
        | fail)
      refine bodyPost_ret (result_rec rfl rfl rfl stT hF rfl) rfl ?_
      rw [HY2.out]
      refine ⟨P5, C5, D5, rfl, ?_, hFB⟩
      exact (ho6.setCells hgR _ _).mono (Nat.le_of_lt hgA)
    · have HY2 : Hid (Y = (zeroS, le)) := Lib.hid (by rw [HY4.out]; simp [withS, hle])
      refine (HWN.out hle _ G4).mono ?_; rintro e w5 ⟨rfl, hb5⟩
      have G5 := btr G4 hb5
      have B5 := btr B4 hb5
      clear hle
      have hF := (HR.out.below G5).putAll (stC zeroS (.slice none 0 0) (.slice none 0 0) (.slice none 0 0)) rfl
      have hFB := below_setCells (Nat.le_succ w.heap.size) (stC zeroS (.slice none 0 0) (.slice none 0 0) (.slice none 0 0)) 0 _ (B5)
      go_wp2_with (first
        | (refine wpList_load_rec rfl _ _ rfl (w.heap.size + 1) rfl _ 24 stT (HR.out.below G5) rfl ?_)
        | (refine wpList_store_rec rfl _ _ _ rfl (w.heap.size + 1) (stC zeroS (.slice none 0 0) (.slice none 0 0) (.slice none 0 0)) _ rfl rfl 24 stT (HR.out.below G5) rfl rfl zero_one ?_)
        | fail)
      refine bodyPost_ret (result_rec rfl rfl rfl stT hF rfl) rfl ?_
      rw [HY2.out]
      exact ⟨_, _, _, rfl, zero_own _ _, hFB⟩
set_option maxRecDepth 100000 in
set_option maxHeartbeats 4000000 in
theorem stBow_any (x : St) (P C D : Value) (cu cv u v : Int) (d : Bool) (Y : St × Int) (w : World) (h : StAt w x P C D) (hY : bowS x cu cv u v d = Y) : Calls Try.prog 25 #[.agg (stC x P C D).toArray, .int .i64 cu, .int .i64 cv, .int .i64 u, .int .i64 v, .bool d] w
    fun r w' => ∃ P' C' D', r = .returned (.tuple #[.agg (stC Y.1 P' C' D').toArray, .int .i64 Y.2]) ∧ StOwn w' w.heap.size Y.1 P' C' D' ∧ Below w.heap.size w w' := by
  obtain ⟨w0, hw0⟩ : ∃ w0 : World, w0 = (w.alloc (.cells (stC x P C D).toArray 34)).alloc (.cells (stC zeroS (.slice none 0 0) (.slice none 0 0) (.slice none 0 0)).toArray 34) := ⟨_, rfl⟩
  have hB0 : Below w.heap.size w w0 := by rw [hw0]; exact bal (bal (Below.refl _ _) _) _
  have hA : BC w0 w.heap.size (stC x P C D) := by rw [hw0]; exact (BC.new (stC x P C D) 34 rfl).below (bal (Below.refl _ _) _)
  have hR : BC w0 (w.heap.size + 1) (stC zeroS (.slice none 0 0) (.slice none 0 0) (.slice none 0 0)) := by rw [hw0]; exact BC.new (w := w.alloc (.cells (stC x P C D).toArray 34)) _ 34 (by simp)
  have hgA := hA.lt
  have hgR := hR.lt
  have h0 := h.below hB0
  rw [zero_lit] at hw0
  obtain ⟨Ap, cp, rfl, hp, hpc, hpm⟩ := h0.p
  obtain ⟨np, hnp⟩ : ∃ n, n = x.p.length := ⟨_, rfl⟩
  rw [← hnp] at hw0 hA hp hpc h h0 ⊢
  have HY := Lib.hid hY
  have HM := Lib.hid fun W (hb : Below w0.heap.size w0 W) => stMay_any x (.slice Ap np cp) C D W (h0.below hb)
  have H0 := Lib.hid h0
  have HP := Lib.hid hp
  have HA := Lib.hid hA
  have HR := Lib.hid hR
  have HNP := Lib.hid hnp
  clear hY h0 h hp hA hR hnp
  go_enter Try.func25, Try.ntmps25
  go_upto_region 1 with (fail)
  rw [← hw0]
  clear hw0
  go_wp2_with (first
    | (refine wpList_load_rec rfl _ _ rfl w.heap.size rfl _ 24 stT HA.out rfl ?_)
    | fail)
  refine (HM.out _ (Below.refl _ _)).mono ?_; rintro e w1 ⟨rfl, hb1⟩
  have G1 := hb1
  have B1 := btr hB0 G1
  clear hb1
  cases hm : mayS x
  · have HY2 : Hid (Y = (zeroS, 1)) := Lib.hid (by rw [← HY.out]; unfold bowS; rw [hm]; simp)
    have hF := (HR.out.below G1).putAll (stC zeroS (.slice none 0 0) (.slice none 0 0) (.slice none 0 0)) rfl
    have hFB := below_setCells (Nat.le_succ w.heap.size) (stC zeroS (.slice none 0 0) (.slice none 0 0) (.slice none 0 0)) 0 _ (B1)
    go_wp2_with (first
      | (refine wpList_load_rec rfl _ _ rfl (w.heap.size + 1) rfl _ 24 stT (HR.out.below G1) rfl ?_)
      | (refine wpList_store_rec rfl _ _ _ rfl (w.heap.size + 1) (stC zeroS (.slice none 0 0) (.slice none 0 0) (.slice none 0 0)) _ rfl rfl 24 stT (HR.out.below G1) rfl rfl zero_one ?_)
      | fail)
    refine bodyPost_ret (result_rec rfl rfl rfl stT hF rfl) rfl ?_
    rw [HY2.out]
    exact ⟨_, _, _, rfl, zero_own _ _, hFB⟩
  · have hfew := mayS_few hm
    have hnp3 : np ≤ 1000 := by rw [HNP.out]; exact hfew.1
    have HFEW := Lib.hid hfew
    clear hfew
    go_wp2_with fail
    refine (stmay_any _ 4 _ [cu, cv, u, v] _ (by omega) (sl_new (w := w1) (t := 3) (ints [cu, cv, u, v]) rfl rfl)).mono ?_; rintro e w' ⟨rfl, rfl⟩
    have G2 := bal G1 (.cells (ints [cu, cv, u, v]).toArray 3)
    have B2 := bal B1 (.cells (ints [cu, cv, u, v]).toArray 3)
    obtain ⟨w2, hw2⟩ : ∃ w2, w2 = w1.alloc (.cells (ints [cu, cv, u, v]).toArray 3) := ⟨_, rfl⟩
    rw [← hw2] at G2 B2 ⊢
    clear hw2
    cases hf : [cu, cv, u, v].all fixB
    · have HY2 : Hid (Y = (zeroS, 1)) := Lib.hid (by rw [← HY.out]; unfold bowS; rw [hm, hf]; simp)
      have hF := (HR.out.below G2).putAll (stC zeroS (.slice none 0 0) (.slice none 0 0) (.slice none 0 0)) rfl
      have hFB := below_setCells (Nat.le_succ w.heap.size) (stC zeroS (.slice none 0 0) (.slice none 0 0) (.slice none 0 0)) 0 _ (B2)
      go_wp2_with (first
        | (refine wpList_load_rec rfl _ _ rfl (w.heap.size + 1) rfl _ 24 stT (HR.out.below G2) rfl ?_)
        | (refine wpList_store_rec rfl _ _ _ rfl (w.heap.size + 1) (stC zeroS (.slice none 0 0) (.slice none 0 0) (.slice none 0 0)) _ rfl rfl 24 stT (HR.out.below G2) rfl rfl zero_one ?_)
        | fail)
      refine bodyPost_ret (result_rec rfl rfl rfl stT hF rfl) rfl ?_
      rw [HY2.out]
      exact ⟨_, _, _, rfl, zero_own _ _, hFB⟩
    · obtain ⟨⟨qx, qy, qe⟩, hqt⟩ : ∃ p, pointS x.m x.p cu cv d = p := ⟨_, rfl⟩
      obtain ⟨⟨px, py, pe⟩, hpt⟩ : ∃ p, pointS x.m x.p u v d = p := ⟨_, rfl⟩
      have HQt := Lib.hid fun W (hb : Below w0.heap.size w0 W) => point_any x (.slice Ap np cp) C D cu cv d W (H0.out.below hb) HFEW.out
      have HPt := Lib.hid fun W (hb : Below w0.heap.size w0 W) => point_any x (.slice Ap np cp) C D u v d W (H0.out.below hb) HFEW.out
      rw [hpt] at HPt
      rw [hqt] at HQt
      unfold vP at HPt HQt
      simp only at HPt HQt
      have HY3 : Hid (Y = if qe ≠ 0 then (zeroS, qe) else if pe ≠ 0 then (zeroS, pe) else withS x (onL x.p ⟨3, px, py, qx, qy⟩)) := Lib.hid (by rw [← HY.out]; unfold bowS; rw [hm, hf, hpt, hqt]; simp)
      clear hpt hqt HY hf hm
      have A2 := HA.out.below G2
      go_wp2_with (first
        | (refine wpList_load_rec rfl _ _ rfl w.heap.size rfl _ 24 stT A2 rfl ?_)
        | fail)
      refine (HQt.out _ G2).mono ?_; rintro e w3' ⟨rfl, hb3⟩
      have G3' := btr G2 hb3
      have B3' := btr B2 hb3
      have A3 := HA.out.below G3'
      clear hb3 A2 HQt
      by_cases hqe : qe = 0
      · subst hqe
        go_wp2_with (first
          | (refine wpList_load_rec rfl _ _ rfl w.heap.size rfl _ 24 stT A3 rfl ?_)
          | fail)
        refine (HPt.out _ G3').mono ?_; rintro e w3 ⟨rfl, hb3⟩
        have G3 := btr G3' hb3
        have B3 := btr B3' hb3
        clear hb3 A3 HPt
        by_cases hpe : pe = 0
        · subst hpe
          obtain ⟨E, hE⟩ : ∃ E, onL x.p ⟨3, px, py, qx, qy⟩ = E := ⟨_, rfl⟩
          have HY4 : Hid (Y = withS x E) := Lib.hid (by rw [HY3.out, hE]; simp)
          have hlen : E.1.length ≤ 300 := by rw [← hE]; exact onL_le _ _
          have HE := Lib.hid hE
          have c6 := (HA.out.below G3).c 6 _ rfl
          clear hE HY3
          go_wp2_with fail
          refine (Bow_any Ap np cp qx qy px py x.p E _ (by omega) (HP.out.below G3) HE.out).mono ?_; rintro e w4 ⟨A4', c4', rfl, ho4, hb4⟩
          have G4 := btr G3 hb4
          have B4 := btr B3 hb4
          have A4 := HA.out.below G4
          have s4 := own_sl ho4
          obtain ⟨l, le⟩ := E
          simp only at s4 hlen HY4 ho4 ⊢
          obtain ⟨nl, hnl⟩ : ∃ n, n = l.length := ⟨_, rfl⟩
          rw [← hnl] at s4 hlen ⊢
          have HS4 := Lib.hid s4
          have HWN := Lib.hid fun (he : le ≠ 0) W (hb : Below w0.heap.size w0 W) => with_no x (.slice Ap np cp) C D A4' nl c4' le W (H0.out.below hb) he
          have HWO := Lib.hid fun W (hb : Below w4.heap.size w4 W) => with_ok x (.slice Ap np cp) C D A4' nl c4' l W (H0.out.below (btr G4 hb)) HFEW.out (HS4.out.below hb) (by omega)
          clear c6 hb4 s4 hnl ho4
          go_wp2_with (first
            | (refine wpList_load_rec rfl _ _ rfl w.heap.size rfl _ 24 stT A4 rfl ?_)
            | fail)
          by_cases hle : le = 0
          · subst hle
            have HY2 : Hid (Y = ({ x with p := l }, 0)) := Lib.hid (by rw [HY4.out]; simp [withS])
            refine (HWO.out _ (Below.refl _ _)).mono ?_; rintro e w5 ⟨P5, C5, D5, rfl, ho5, hb5⟩
            have G5 := btr G4 hb5
            have B5 := btr B4 hb5
            have R5 := HR.out.below G5
            have hone := ho5.at.one
            have ho6 := ho5.mono (show w0.heap.size ≤ w4.heap.size from G4.size)
            have hF := R5.putAll (stC { x with p := l } P5 C5 D5) rfl
            have hFB := below_setCells (Nat.le_succ w.heap.size) (stC { x with p := l } P5 C5 D5) 0 _ B5
            go_wp2_with (first
              | (refine wpList_store_rec rfl _ _ _ rfl (w.heap.size + 1) (stC { x with p := l } P5 C5 D5) _ rfl rfl 24 stT R5 rfl rfl hone ?_)
              | fail)
            refine bodyPost_ret (result_rec rfl rfl rfl stT hF rfl) rfl ?_
            rw [HY2.out]
            refine ⟨P5, C5, D5, rfl, ?_, hFB⟩
            exact (ho6.setCells hgR _ _).mono (Nat.le_of_lt hgA)
          · have HY2 : Hid (Y = (zeroS, le)) := Lib.hid (by rw [HY4.out]; simp [withS, hle])
            refine (HWN.out hle _ G4).mono ?_; rintro e w5 ⟨rfl, hb5⟩
            have G5 := btr G4 hb5
            have B5 := btr B4 hb5
            clear hle
            have hF := (HR.out.below G5).putAll (stC zeroS (.slice none 0 0) (.slice none 0 0) (.slice none 0 0)) rfl
            have hFB := below_setCells (Nat.le_succ w.heap.size) (stC zeroS (.slice none 0 0) (.slice none 0 0) (.slice none 0 0)) 0 _ (B5)
            go_wp2_with (first
              | (refine wpList_load_rec rfl _ _ rfl (w.heap.size + 1) rfl _ 24 stT (HR.out.below G5) rfl ?_)
              | (refine wpList_store_rec rfl _ _ _ rfl (w.heap.size + 1) (stC zeroS (.slice none 0 0) (.slice none 0 0) (.slice none 0 0)) _ rfl rfl 24 stT (HR.out.below G5) rfl rfl zero_one ?_)
              | fail)
            refine bodyPost_ret (result_rec rfl rfl rfl stT hF rfl) rfl ?_
            rw [HY2.out]
            exact ⟨_, _, _, rfl, zero_own _ _, hFB⟩
        · have HY2 : Hid (Y = (zeroS, pe)) := Lib.hid (by rw [HY3.out]; simp [hpe])
          have he0 : (pe == 0) = false := by simp [hpe]
          have hF := (HR.out.below G3).putAll (stC zeroS (.slice none 0 0) (.slice none 0 0) (.slice none 0 0)) rfl
          have hFB := below_setCells (Nat.le_succ w.heap.size) (stC zeroS (.slice none 0 0) (.slice none 0 0) (.slice none 0 0)) 0 _ (B3)
          go_wp2_with (first
            | (refine wpList_load_rec rfl _ _ rfl (w.heap.size + 1) rfl _ 24 stT (HR.out.below G3) rfl ?_)
            | (refine wpList_store_rec rfl _ _ _ rfl (w.heap.size + 1) (stC zeroS (.slice none 0 0) (.slice none 0 0) (.slice none 0 0)) _ rfl rfl 24 stT (HR.out.below G3) rfl rfl zero_one ?_)
            | fail)
          refine bodyPost_ret (result_rec rfl rfl rfl stT hF rfl) rfl ?_
          rw [HY2.out]
          exact ⟨_, _, _, rfl, zero_own _ _, hFB⟩
      · have HY2 : Hid (Y = (zeroS, qe)) := Lib.hid (by rw [HY3.out]; simp [hqe])
        have he0 : (qe == 0) = false := by simp [hqe]
        clear A3
        have hF := (HR.out.below G3').putAll (stC zeroS (.slice none 0 0) (.slice none 0 0) (.slice none 0 0)) rfl
        have hFB := below_setCells (Nat.le_succ w.heap.size) (stC zeroS (.slice none 0 0) (.slice none 0 0) (.slice none 0 0)) 0 _ (B3')
        go_wp2_with (first
          | (refine wpList_load_rec rfl _ _ rfl (w.heap.size + 1) rfl _ 24 stT (HR.out.below G3') rfl ?_)
          | (refine wpList_store_rec rfl _ _ _ rfl (w.heap.size + 1) (stC zeroS (.slice none 0 0) (.slice none 0 0) (.slice none 0 0)) _ rfl rfl 24 stT (HR.out.below G3') rfl rfl zero_one ?_)
          | fail)
        refine bodyPost_ret (result_rec rfl rfl rfl stT hF rfl) rfl ?_
        rw [HY2.out]
        exact ⟨_, _, _, rfl, zero_own _ _, hFB⟩
end Go.Proofs.Ytaadajadeemndaa
