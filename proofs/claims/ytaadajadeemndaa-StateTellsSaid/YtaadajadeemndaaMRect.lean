/- state.Bow, Shut. -/
import Derived.Test.YtaadajadeemndaaSt9
import Derived.Test.YtaadajadeemndaaMBoxP
namespace Go.Proofs.Ytaadajadeemndaa
open Go.RowKit Go.BigFrame

/-- With another path, unless that is none. -/
def withS (x : St) (E : List Sg × Int) : St × Int := if E.2 ≠ 0 then (zeroS, E.2) else ({ x with p := E.1 }, 0)
def bowS (x : St) (cu cv u v : Int) (d : Bool) : St × Int :=
  if (mayS x && [cu, cv, u, v].all fixB) = false then (zeroS, 1)
  else if (pointS x.m x.p cu cv d).2.2 ≠ 0 then (zeroS, (pointS x.m x.p cu cv d).2.2)
  else if (pointS x.m x.p u v d).2.2 ≠ 0 then (zeroS, (pointS x.m x.p u v d).2.2)
  else withS x (onL x.p ⟨3, (pointS x.m x.p u v d).1, (pointS x.m x.p u v d).2.1, (pointS x.m x.p cu cv d).1, (pointS x.m x.p cu cv d).2.1⟩)
def shutS (x : St) : St × Int := if mayS x = false then (zeroS, 1) else withS x (shutL x.p)
set_option maxRecDepth 100000 in
set_option maxHeartbeats 4000000 in
theorem stShut_any (x : St) (P C D : Value) (Y : St × Int) (w : World) (h : StAt w x P C D) (hY : shutS x = Y) : Calls Try.prog 29 #[.agg (stC x P C D).toArray] w
    fun r w' => ∃ P' C' D', r = .returned (.tuple #[.agg (stC Y.1 P' C' D').toArray, .int .i64 Y.2]) ∧ StOwn w' w.heap.size Y.1 P' C' D' ∧ Below w.heap.size w w' := by
  obtain ⟨w0, hw0⟩ : ∃ w0 : World, w0 = (w.alloc (.cells (stC x P C D).toArray 34)).alloc (.cells (stC zeroS (.slice none 0 0) (.slice none 0 0) (.slice none 0 0)).toArray 34) := ⟨_, rfl⟩
  have hB0 : Below w.heap.size w w0 := by rw [hw0]; exact bal (bal (Below.refl _ _) _) _
  have hA : BC w0 w.heap.size (stC x P C D) := by rw [hw0]; exact (BC.new (stC x P C D) 34 rfl).below (bal (Below.refl _ _) _)
  have hR : BC w0 (w.heap.size + 1) (stC zeroS (.slice none 0 0) (.slice none 0 0) (.slice none 0 0)) := by rw [hw0]; exact BC.new (w := w.alloc (.cells (stC x P C D).toArray 34)) _ 34 (by simp)
  have hgA := hA.lt
  have hgR := hR.lt
  have h0 := h.below hB0
  rw [zero_lit] at hw0
  obtain ⟨Ap, cp, rfl, hp, hpc, hpm⟩ := h0.p
  obtain ⟨np, hnp⟩ : ∃ n, n = x.p.length := ⟨_, rfl⟩
  rw [← hnp] at hw0 hA hp hpc h h0 ⊢
  have HY := Lib.hid hY
  have HM := Lib.hid fun W (hb : Below w0.heap.size w0 W) => stMay_any x (.slice Ap np cp) C D W (h0.below hb)
  have H0 := Lib.hid h0
  have HP := Lib.hid hp
  have HA := Lib.hid hA
  have HR := Lib.hid hR
  have HNP := Lib.hid hnp
  clear hY h0 h hp hA hR hnp
  go_enter Try.func29, Try.ntmps29
  go_upto_region 1 with (fail)
  rw [← hw0]
  clear hw0
  go_wp2_with (first
    | (refine wpList_load_rec rfl _ _ rfl w.heap.size rfl _ 24 stT HA.out rfl ?_)
    | fail)
  refine (HM.out _ (Below.refl _ _)).mono ?_; rintro e w1 ⟨rfl, hb1⟩
  have G1 := hb1
  have B1 := btr hB0 G1
  clear hb1
  cases hm : mayS x
  · have HY2 : Hid (Y = (zeroS, 1)) := Lib.hid (by rw [← HY.out]; unfold shutS; rw [hm]; simp)
    have hF := (HR.out.below G1).putAll (stC zeroS (.slice none 0 0) (.slice none 0 0) (.slice none 0 0)) rfl
    have hFB := below_setCells (Nat.le_succ w.heap.size) (stC zeroS (.slice none 0 0) (.slice none 0 0) (.slice none 0 0)) 0 _ (B1)
    go_wp2_with (first
      | (refine wpList_load_rec rfl _ _ rfl (w.heap.size + 1) rfl _ 24 stT (HR.out.below G1) rfl ?_)
      | (refine wpList_store_rec rfl _ _ _ rfl (w.heap.size + 1) (stC zeroS (.slice none 0 0) (.slice none 0 0) (.slice none 0 0)) _ rfl rfl 24 stT (HR.out.below G1) rfl rfl zero_one ?_)
      | fail)
    refine bodyPost_ret (result_rec rfl rfl rfl stT hF rfl) rfl ?_
    rw [HY2.out]
    exact ⟨_, _, _, rfl, zero_own _ _, hFB⟩
  · have hfew := mayS_few hm
    have hnp3 : np ≤ 1000 := by rw [HNP.out]; exact hfew.1
    have HFEW := Lib.hid hfew
    clear hfew
    obtain ⟨E, hE⟩ : ∃ E, shutL x.p = E := ⟨_, rfl⟩
    have HY4 : Hid (Y = withS x E) := Lib.hid (by rw [← HY.out]; unfold shutS; rw [hm, hE]; simp)
    have hlen : E.1.length ≤ 300 := by rw [← hE]; exact shutL_le _
    have HE := Lib.hid hE
    have G3 := G1
    have B3 := B1
    have c6 := (HA.out.below G3).c 6 _ rfl
    clear hE HY G1 B1
    go_wp2_with fail
    refine (Shut_any Ap np cp x.p E _ (by omega) (HP.out.below G3) HE.out).mono ?_; rintro e w4 ⟨A4', c4', rfl, ho4, hb4⟩
    have G4 := btr G3 hb4
    have B4 := btr B3 hb4
    have A4 := HA.out.below G4
    have s4 := own_sl ho4
    obtain ⟨l, le⟩ := E
    simp only at s4 hlen HY4 ho4 ⊢
    obtain ⟨nl, hnl⟩ : ∃ n, n = l.length := ⟨_, rfl⟩
    rw [← hnl] at s4 hlen ⊢
    have HS4 := Lib.hid s4
    have HWN := Lib.hid fun (he : le ≠ 0) W (hb : Below w0.heap.size w0 W) => with_no x (.slice Ap np cp) C D A4' nl c4' le W (H0.out.below hb) he
    have HWO := Lib.hid fun W (hb : Below w4.heap.size w4 W) => with_ok x (.slice Ap np cp) C D A4' nl c4' l W (H0.out.below (btr G4 hb)) HFEW.out (HS4.out.below hb) (by omega)
    clear c6 hb4 s4 hnl ho4
    go_wp2_with (first
      | (refine wpList_load_rec rfl _ _ rfl w.heap.size rfl _ 24 stT A4 rfl ?_)
      | fail)
    by_cases hle : le = 0
    · subst hle
      have HY2 : Hid (Y = ({ x with p := l }, 0)) := Lib.hid (by rw [HY4.out]; simp [withS])
      refine (HWO.out _ (Below.refl _ _)).mono ?_; rintro e w5 ⟨P5, C5, D5, rfl, ho5, hb5⟩
      have G5 := btr G4 hb5
      have B5 := btr B4 hb5
      have R5 := HR.out.below G5
      have hone := ho5.at.one
      have ho6 := ho5.mono (show w0.heap.size ≤ w4.heap.size from G4.size)
      have hF := R5.putAll (stC { x with p := l } P5 C5 D5) rfl
      have hFB := below_setCells (Nat.le_succ w.heap.size) (stC { x with p := l } P5 C5 D5) 0 _ B5
      go_wp2_with (first
        | (refine wpList_store_rec rfl _ _ _ rfl (w.heap.size + 1) (stC { x with p := l } P5 C5 D5) _ rfl rfl 24 stT R5 rfl rfl hone ?_)
        | fail)
      refine bodyPost_ret (result_rec rfl rfl rfl stT hF rfl) rfl ?_
      rw [HY2.out]
      refine ⟨P5, C5, D5, rfl, ?_, hFB⟩
      exact (ho6.setCells hgR _ _).mono (Nat.le_of_lt hgA)
    · have HY2 : Hid (Y = (zeroS, le)) := Lib.hid (by rw [HY4.out]; simp [withS, hle])
      refine (HWN.out hle _ G4).mono ?_; rintro e w5 ⟨rfl, hb5⟩
      have G5 := btr G4 hb5
      have B5 := btr B4 hb5
      clear hle
      have hF := (HR.out.below G5).putAll (stC zeroS (.slice none 0 0) (.slice none 0 0) (.slice none 0 0)) rfl
      have hFB := below_setCells (Nat.le_succ w.heap.size) (stC zeroS (.slice none 0 0) (.slice none 0 0) (.slice none 0 0)) 0 _ (B5)
      go_wp2_with (first
        | (refine wpList_load_rec rfl _ _ rfl (w.heap.size + 1) rfl _ 24 stT (HR.out.below G5) rfl ?_)
        | (refine wpList_store_rec rfl _ _ _ rfl (w.heap.size + 1) (stC zeroS (.slice none 0 0) (.slice none 0 0) (.slice none 0 0)) _ rfl rfl 24 stT (HR.out.below G5) rfl rfl zero_one ?_)
        | fail)
      refine bodyPost_ret (result_rec rfl rfl rfl stT hF rfl) rfl ?_
      rw [HY2.out]
      exact ⟨_, _, _, rfl, zero_own _ _, hFB⟩
set_option maxRecDepth 100000 in
set_option maxHeartbeats 4000000 in
theorem stBow_any (x : St) (P C D : Value) (cu cv u v : Int) (d : Bool) (Y : St × Int) (w : World) (h : StAt w x P C D) (hY : bowS x cu cv u v d = Y) : Calls Try.prog 25 #[.agg (stC x P C D).toArray, .int .i64 cu, .int .i64 cv, .int .i64 u, .int .i64 v, .bool d] w
    fun r w' => ∃ P' C' D', r = .returned (.tuple #[.agg (stC Y.1 P' C' D').toArray, .int .i64 Y.2]) ∧ StOwn w' w.heap.size Y.1 P' C' D' ∧ Below w.heap.size w w' := by
  obtain ⟨w0, hw0⟩ : ∃ w0 : World, w0 = (w.alloc (.cells (stC x P C D).toArray 34)).alloc (.cells (stC zeroS (.slice none 0 0) (.slice none 0 0) (.slice none 0 0)).toArray 34) := ⟨_, rfl⟩
  have hB0 : Below w.heap.size w w0 := by rw [hw0]; exact bal (bal (Below.refl _ _) _) _
  have hA : BC w0 w.heap.size (stC x P C D) := by rw [hw0]; exact (BC.new (stC x P C D) 34 rfl).below (bal (Below.refl _ _) _)
  have hR : BC w0 (w.heap.size + 1) (stC zeroS (.slice none 0 0) (.slice none 0 0) (.slice none 0 0)) := by rw [hw0]; exact BC.new (w := w.alloc (.cells (stC x P C D).toArray 34)) _ 34 (by simp)
  have hgA := hA.lt
  have hgR := hR.lt
  have h0 := h.below hB0
  rw [zero_lit] at hw0
  obtain ⟨Ap, cp, rfl, hp, hpc, hpm⟩ := h0.p
  obtain ⟨np, hnp⟩ : ∃ n, n = x.p.length := ⟨_, rfl⟩
  rw [← hnp] at hw0 hA hp hpc h h0 ⊢
  have HY := Lib.hid hY
  have HM := Lib.hid fun W (hb : Below w0.heap.size w0 W) => stMay_any x (.slice Ap np cp) C D W (h0.below hb)
  have H0 := Lib.hid h0
  have HP := Lib.hid hp
  have HA := Lib.hid hA
  have HR := Lib.hid hR
  have HNP := Lib.hid hnp
  clear hY h0 h hp hA hR hnp
  go_enter Try.func25, Try.ntmps25
  go_upto_region 1 with (fail)
  rw [← hw0]
  clear hw0
  go_wp2_with (first
    | (refine wpList_load_rec rfl _ _ rfl w.heap.size rfl _ 24 stT HA.out rfl ?_)
    | fail)
  refine (HM.out _ (Below.refl _ _)).mono ?_; rintro e w1 ⟨rfl, hb1⟩
  have G1 := hb1
  have B1 := btr hB0 G1
  clear hb1
  cases hm : mayS x
  · have HY2 : Hid (Y = (zeroS, 1)) := Lib.hid (by rw [← HY.out]; unfold bowS; rw [hm]; simp)
    have hF := (HR.out.below G1).putAll (stC zeroS (.slice none 0 0) (.slice none 0 0) (.slice none 0 0)) rfl
    have hFB := below_setCells (Nat.le_succ w.heap.size) (stC zeroS (.slice none 0 0) (.slice none 0 0) (.slice none 0 0)) 0 _ (B1)
    go_wp2_with (first
      | (refine wpList_load_rec rfl _ _ rfl (w.heap.size + 1) rfl _ 24 stT (HR.out.below G1) rfl ?_)
      | (refine wpList_store_rec rfl _ _ _ rfl (w.heap.size + 1) (stC zeroS (.slice none 0 0) (.slice none 0 0) (.slice none 0 0)) _ rfl rfl 24 stT (HR.out.below G1) rfl rfl zero_one ?_)
      | fail)
    refine bodyPost_ret (result_rec rfl rfl rfl stT hF rfl) rfl ?_
    rw [HY2.out]
    exact ⟨_, _, _, rfl, zero_own _ _, hFB⟩
  · have hfew := mayS_few hm
    have hnp3 : np ≤ 1000 := by rw [HNP.out]; exact hfew.1
    have HFEW := Lib.hid hfew
    clear hfew
    go_wp2_with fail
    refine (stmay_any _ 4 _ [cu, cv, u, v] _ (by omega) (sl_new (w := w1) (t := 3) (ints [cu, cv, u, v]) rfl rfl)).mono ?_; rintro e w' ⟨rfl, rfl⟩
    have G2 := bal G1 (.cells (ints [cu, cv, u, v]).toArray 3)
    have B2 := bal B1 (.cells (ints [cu, cv, u, v]).toArray 3)
    obtain ⟨w2, hw2⟩ : ∃ w2, w2 = w1.alloc (.cells (ints [cu, cv, u, v]).toArray 3) := ⟨_, rfl⟩
    rw [← hw2] at G2 B2 ⊢
    clear hw2
    cases hf : [cu, cv, u, v].all fixB
    · have HY2 : Hid (Y = (zeroS, 1)) := Lib.hid (by rw [← HY.out]; unfold bowS; rw [hm, hf]; simp)
      have hF := (HR.out.below G2).putAll (stC zeroS (.slice none 0 0) (.slice none 0 0) (.slice none 0 0)) rfl
      have hFB := below_setCells (Nat.le_succ w.heap.size) (stC zeroS (.slice none 0 0) (.slice none 0 0) (.slice none 0 0)) 0 _ (B2)
      go_wp2_with (first
        | (refine wpList_load_rec rfl _ _ rfl (w.heap.size + 1) rfl _ 24 stT (HR.out.below G2) rfl ?_)
        | (refine wpList_store_rec rfl _ _ _ rfl (w.heap.size + 1) (stC zeroS (.slice none 0 0) (.slice none 0 0) (.slice none 0 0)) _ rfl rfl 24 stT (HR.out.below G2) rfl rfl zero_one ?_)
        | fail)
      refine bodyPost_ret (result_rec rfl rfl rfl stT hF rfl) rfl ?_
      rw [HY2.out]
      exact ⟨_, _, _, rfl, zero_own _ _, hFB⟩
    · obtain ⟨⟨qx, qy, qe⟩, hqt⟩ : ∃ p, pointS x.m x.p cu cv d = p := ⟨_, rfl⟩
      obtain ⟨⟨px, py, pe⟩, hpt⟩ : ∃ p, pointS x.m x.p u v d = p := ⟨_, rfl⟩
      have HQt := Lib.hid fun W (hb : Below w0.heap.size w0 W) => point_any x (.slice Ap np cp) C D cu cv d W (H0.out.below hb) HFEW.out
      have HPt := Lib.hid fun W (hb : Below w0.heap.size w0 W) => point_any x (.slice Ap np cp) C D u v d W (H0.out.below hb) HFEW.out
      rw [hpt] at HPt
      rw [hqt] at HQt
      unfold vP at HPt HQt
      simp only at HPt HQt
      have HY3 : Hid (Y = if qe ≠ 0 then (zeroS, qe) else if pe ≠ 0 then (zeroS, pe) else withS x (onL x.p ⟨3, px, py, qx, qy⟩)) := Lib.hid (by rw [← HY.out]; unfold bowS; rw [hm, hf, hpt, hqt]; simp)
      clear hpt hqt HY hf hm
      have A2 := HA.out.below G2
      go_wp2_with (first
        | (refine wpList_load_rec rfl _ _ rfl w.heap.size rfl _ 24 stT A2 rfl ?_)
        | fail)
      refine (HQt.out _ G2).mono ?_; rintro e w3' ⟨rfl, hb3⟩
      have G3' := btr G2 hb3
      have B3' := btr B2 hb3
      have A3 := HA.out.below G3'
      clear hb3 A2 HQt
      by_cases hqe : qe = 0
      · subst hqe
        go_wp2_with (first
          | (refine wpList_load_rec rfl _ _ rfl w.heap.size rfl _ 24 stT A3 rfl ?_)
          | fail)
        refine (HPt.out _ G3').mono ?_; rintro e w3 ⟨rfl, hb3⟩
        have G3 := btr G3' hb3
        have B3 := btr B3' hb3
        clear hb3 A3 HPt
        by_cases hpe : pe = 0
        · subst hpe
          obtain ⟨E, hE⟩ : ∃ E, onL x.p ⟨3, px, py, qx, qy⟩ = E := ⟨_, rfl⟩
          have HY4 : Hid (Y = withS x E) := Lib.hid (by rw [HY3.out, hE]; simp)
          have hlen : E.1.length ≤ 300 := by rw [← hE]; exact onL_le _ _
          have HE := Lib.hid hE
          have c6 := (HA.out.below G3).c 6 _ rfl
          clear hE HY3
          go_wp2_with fail
          refine (Bow_any Ap np cp qx qy px py x.p E _ (by omega) (HP.out.below G3) HE.out).mono ?_; rintro e w4 ⟨A4', c4', rfl, ho4, hb4⟩
          have G4 := btr G3 hb4
          have B4 := btr B3 hb4
          have A4 := HA.out.below G4
          have s4 := own_sl ho4
          obtain ⟨l, le⟩ := E
          simp only at s4 hlen HY4 ho4 ⊢
          obtain ⟨nl, hnl⟩ : ∃ n, n = l.length := ⟨_, rfl⟩
          rw [← hnl] at s4 hlen ⊢
          have HS4 := Lib.hid s4
          have HWN := Lib.hid fun (he : le ≠ 0) W (hb : Below w0.heap.size w0 W) => with_no x (.slice Ap np cp) C D A4' nl c4' le W (H0.out.below hb) he
          have HWO := Lib.hid fun W (hb : Below w4.heap.size w4 W) => with_ok x (.slice Ap np cp) C D A4' nl c4' l W (H0.out.below (btr G4 hb)) HFEW.out (HS4.out.below hb) (by omega)
          clear c6 hb4 s4 hnl ho4
          go_wp2_with (first
            | (refine wpList_load_rec rfl _ _ rfl w.heap.size rfl _ 24 stT A4 rfl ?_)
            | fail)
          by_cases hle : le = 0
          · subst hle
            have HY2 : Hid (Y = ({ x with p := l }, 0)) := Lib.hid (by rw [HY4.out]; simp [withS])
            refine (HWO.out _ (Below.refl _ _)).mono ?_; rintro e w5 ⟨P5, C5, D5, rfl, ho5, hb5⟩
            have G5 := btr G4 hb5
            have B5 := btr B4 hb5
            have R5 := HR.out.below G5
            have hone := ho5.at.one
            have ho6 := ho5.mono (show w0.heap.size ≤ w4.heap.size from G4.size)
            have hF := R5.putAll (stC { x with p := l } P5 C5 D5) rfl
            have hFB := below_setCells (Nat.le_succ w.heap.size) (stC { x with p := l } P5 C5 D5) 0 _ B5
            go_wp2_with (first
              | (refine wpList_store_rec rfl _ _ _ rfl (w.heap.size + 1) (stC { x with p := l } P5 C5 D5) _ rfl rfl 24 stT R5 rfl rfl hone ?_)
              | fail)
            refine bodyPost_ret (result_rec rfl rfl rfl stT hF rfl) rfl ?_
            rw [HY2.out]
            refine ⟨P5, C5, D5, rfl, ?_, hFB⟩
            exact (ho6.setCells hgR _ _).mono (Nat.le_of_lt hgA)
          · have HY2 : Hid (Y = (zeroS, le)) := Lib.hid (by rw [HY4.out]; simp [withS, hle])
            refine (HWN.out hle _ G4).mono ?_; rintro e w5 ⟨rfl, hb5⟩
            have G5 := btr G4 hb5
            have B5 := btr B4 hb5
            clear hle
            have hF := (HR.out.below G5).putAll (stC zeroS (.slice none 0 0) (.slice none 0 0) (.slice none 0 0)) rfl
            have hFB := below_setCells (Nat.le_succ w.heap.size) (stC zeroS (.slice none 0 0) (.slice none 0 0) (.slice none 0 0)) 0 _ (B5)
            go_wp2_with (first
              | (refine wpList_load_rec rfl _ _ rfl (w.heap.size + 1) rfl _ 24 stT (HR.out.below G5) rfl ?_)
              | (refine wpList_store_rec rfl _ _ _ rfl (w.heap.size + 1) (stC zeroS (.slice none 0 0) (.slice none 0 0) (.slice none 0 0)) _ rfl rfl 24 stT (HR.out.below G5) rfl rfl zero_one ?_)
              | fail)
            refine bodyPost_ret (result_rec rfl rfl rfl stT hF rfl) rfl ?_
            rw [HY2.out]
            exact ⟨_, _, _, rfl, zero_own _ _, hFB⟩
        · have HY2 : Hid (Y = (zeroS, pe)) := Lib.hid (by rw [HY3.out]; simp [hpe])
          have he0 : (pe == 0) = false := by simp [hpe]
          have hF := (HR.out.below G3).putAll (stC zeroS (.slice none 0 0) (.slice none 0 0) (.slice none 0 0)) rfl
          have hFB := below_setCells (Nat.le_succ w.heap.size) (stC zeroS (.slice none 0 0) (.slice none 0 0) (.slice none 0 0)) 0 _ (B3)
          go_wp2_with (first
            | (refine wpList_load_rec rfl _ _ rfl (w.heap.size + 1) rfl _ 24 stT (HR.out.below G3) rfl ?_)
            | (refine wpList_store_rec rfl _ _ _ rfl (w.heap.size + 1) (stC zeroS (.slice none 0 0) (.slice none 0 0) (.slice none 0 0)) _ rfl rfl 24 stT (HR.out.below G3) rfl rfl zero_one ?_)
            | fail)
          refine bodyPost_ret (result_rec rfl rfl rfl stT hF rfl) rfl ?_
          rw [HY2.out]
          exact ⟨_, _, _, rfl, zero_own _ _, hFB⟩
      · have HY2 : Hid (Y = (zeroS, qe)) := Lib.hid (by rw [HY3.out]; simp [hqe])
        have he0 : (qe == 0) = false := by simp [hqe]
        clear A3
        have hF := (HR.out.below G3').putAll (stC zeroS (.slice none 0 0) (.slice none 0 0) (.slice none 0 0)) rfl
        have hFB := below_setCells (Nat.le_succ w.heap.size) (stC zeroS (.slice none 0 0) (.slice none 0 0) (.slice none 0 0)) 0 _ (B3')
        go_wp2_with (first
          | (refine wpList_load_rec rfl _ _ rfl (w.heap.size + 1) rfl _ 24 stT (HR.out.below G3') rfl ?_)
          | (refine wpList_store_rec rfl _ _ _ rfl (w.heap.size + 1) (stC zeroS (.slice none 0 0) (.slice none 0 0) (.slice none 0 0)) _ rfl rfl 24 stT (HR.out.below G3') rfl rfl zero_one ?_)
          | fail)
        refine bodyPost_ret (result_rec rfl rfl rfl stT hF rfl) rfl ?_
        rw [HY2.out]
        exact ⟨_, _, _, rfl, zero_own _ _, hFB⟩
end Go.Proofs.Ytaadajadeemndaa

namespace Go.Proofs.Ytaadajadeemndaa
open Go.RowKit Go.BigFrame

set_option maxRecDepth 100000 in
theorem fixMay_any (v : Int) (w : World) : Calls Try.prog 122 #[.int .i64 v] w fun e w' => e = .returned (.bool (fixB v)) ∧ w = w' := by
  have hs : (fixB v) = (decide (v ≥ -1073741823) && decide (v ≤ 1073741823)) := rfl
  rw [hs]
  clear hs
  go_enter Try.func122, Try.ntmps122
  go_wp2
  all_goals
    go_ret
    refine ⟨?_, rfl⟩
    first | (simp_all; done) | (simp_all; omega)
set_option maxRecDepth 100000 in
set_option maxHeartbeats 1000000 in
theorem fixSum_any (a b : Int) (w : World) (ha : fixB a = true) (hb : fixB b = true) : Calls Try.prog 102 #[.int .i64 a, .int .i64 b] w fun e w' => e = .returned (.tuple #[.int .i64 (a + b), .bool true]) ∧ w = w' := by
  rw [fixB_iff] at ha hb
  have e1 : IntKind.i64.wrap (a + b) = a + b := IntWalk.i64_in _ (by omega)
  go_enter Try.func102, Try.ntmps102
  go_wp2
  go_ret2
  exact ⟨rfl, rfl⟩
set_option maxRecDepth 100000 in
set_option maxHeartbeats 1000000 in
theorem fixTold_any (a b : Int) (w : World) (ha : fixB a = true) (hb : fixB b = true) : Calls Try.prog 101 #[.int .i64 a, .int .i64 b, .func (.func 102) #[] #[]] w fun e w' => e = .returned (.tuple #[.int .i64 (if fixB (a + b) then a + b else 0), .bool (fixB (a + b))]) ∧ w = w' := by
  obtain ⟨R, hR⟩ : ∃ R, Value.tuple #[.int .i64 (if fixB (a + b) then a + b else 0), .bool (fixB (a + b))] = R := ⟨_, rfl⟩
  rw [hR]
  have HR := Lib.hid hR
  clear hR
  go_enter Try.func101, Try.ntmps101
  go_wp2_with fail
  refine (fixMay_any a _).mono ?_; rintro e w' ⟨rfl, rfl⟩
  rw [ha]
  go_wp2_with fail
  refine (fixMay_any b _).mono ?_; rintro e w' ⟨rfl, rfl⟩
  rw [hb]
  go_wp2_with fail
  refine (fixSum_any a b _ ha hb).mono ?_; rintro e w' ⟨rfl, rfl⟩
  go_wp2_with fail
  refine (fixMay_any (a + b) _).mono ?_; rintro e w' ⟨rfl, rfl⟩
  cases hf : fixB (a + b)
  · go_wp2_with fail
    go_ret2
    exact ⟨by rw [← HR.out, hf]; rfl, rfl⟩
  · go_wp2_with fail
    go_ret2
    exact ⟨by rw [← HR.out, hf]; rfl, rfl⟩
set_option maxRecDepth 100000 in
set_option maxHeartbeats 1000000 in
theorem fixAdd_any (a b : Int) (w : World) (ha : fixB a = true) (hb : fixB b = true) : Calls Try.prog 57 #[.int .i64 a, .int .i64 b] w fun e w' => e = .returned (.tuple #[.int .i64 (if fixB (a + b) then a + b else 0), .bool (fixB (a + b))]) ∧ w = w' := by
  obtain ⟨x1, hx1⟩ : ∃ x1, x1 = if fixB (a + b) then a + b else 0 := ⟨_, rfl⟩
  obtain ⟨p, hp⟩ : ∃ p, fixB (a + b) = p := ⟨_, rfl⟩
  have HT := Lib.hid fun W => fixTold_any a b W ha hb
  rw [← hx1, hp] at HT ⊢
  clear hx1 hp
  go_enter Try.func57, Try.ntmps57
  go_wp2_with fail
  refine (HT.out _).mono ?_; rintro e w' ⟨rfl, rfl⟩
  go_wp2_with fail
  go_ret2
  exact ⟨rfl, rfl⟩
def rectS (x : St) (u v wd ht : Int) : St × Int :=
  if (mayS x && [u, v, wd, ht].all fixB) = false then (zeroS, 1)
  else if firstE (rcE (pointM x.m) u v wd ht) ≠ 0 then (zeroS, firstE (rcE (pointM x.m) u v wd ht))
  else withS x (joinL x.p (rcL (pointM x.m) u v wd ht 4 ++ [⟨4, 0, 0, 0, 0⟩]))
theorem pointM_bd (m : Mt) (a b : Int) : -8191 ≤ (pointM m a b).1 ∧ (pointM m a b).1 ≤ 8191 ∧ -8191 ≤ (pointM m a b).2.1 ∧ (pointM m a b).2.1 ≤ 8191 := by
  unfold pointM
  split
  · exact nearP_bd _ _ _ (by omega)
  · refine ⟨?_, ?_, ?_, ?_⟩ <;> simp only <;> omega
theorem rc_start2 {F : Int → Int → Int × Int × Int} {u v wd ht : Int} (hF : ∀ a b, -8191 ≤ (F a b).1 ∧ (F a b).1 ≤ 8191 ∧ -8191 ≤ (F a b).2.1 ∧ (F a b).2.1 ≤ 8191) {px py : Int} (h : rcSeg F u v wd ht 0 = ⟨1, px, py, 0, 0⟩) : startL (rcL F u v wd ht 0) px py = (rcL F u v wd ht 1, 0) := by
  have := rc_start (u := u) (v := v) (wd := wd) (ht := ht) hF
  rw [h] at this
  exact this
theorem rc_on2 {F : Int → Int → Int × Int × Int} {u v wd ht : Int} (hF : ∀ a b, -8191 ≤ (F a b).1 ∧ (F a b).1 ≤ 8191 ∧ -8191 ≤ (F a b).2.1 ∧ (F a b).2.1 ≤ 8191) (i : Nat) (h0 : 0 < i) (h4 : i < 4) {px py : Int} (h : rcSeg F u v wd ht i = ⟨2, px, py, 0, 0⟩) :
    onL (rcL F u v wd ht i) ⟨2, px, py, 0, 0⟩ = (rcL F u v wd ht (i + 1), 0) := by
  have := rc_on (u := u) (v := v) (wd := wd) (ht := ht) hF i h0 h4
  rw [h] at this
  exact this
theorem idx4p (a b c d e f g h : Int) (w : World) : (Instr.index 95 (.agg #[.int .i64 a, .int .i64 b, .int .i64 c, .int .i64 d, .int .i64 e, .int .i64 f, .int .i64 g, .int .i64 h]) (.int .i64 0)).run Try.prog w = .ok (.agg #[.int .i64 a, .int .i64 b]) w ∧ (Instr.index 95 (.agg #[.int .i64 a, .int .i64 b, .int .i64 c, .int .i64 d, .int .i64 e, .int .i64 f, .int .i64 g, .int .i64 h]) (.int .i64 1)).run Try.prog w = .ok (.agg #[.int .i64 c, .int .i64 d]) w ∧
    (Instr.index 95 (.agg #[.int .i64 a, .int .i64 b, .int .i64 c, .int .i64 d, .int .i64 e, .int .i64 f, .int .i64 g, .int .i64 h]) (.int .i64 2)).run Try.prog w = .ok (.agg #[.int .i64 e, .int .i64 f]) w ∧ (Instr.index 95 (.agg #[.int .i64 a, .int .i64 b, .int .i64 c, .int .i64 d, .int .i64 e, .int .i64 f, .int .i64 g, .int .i64 h]) (.int .i64 3)).run Try.prog w = .ok (.agg #[.int .i64 g, .int .i64 h]) w :=
  ⟨by kernel_rfl, by kernel_rfl, by kernel_rfl, by kernel_rfl⟩
set_option maxRecDepth 100000 in
set_option maxHeartbeats 8000000 in
theorem stRect_any (x : St) (P C D : Value) (u v wd ht : Int) (Y : St × Int) (w : World) (h : StAt w x P C D) (hY : rectS x u v wd ht = Y) : Calls Try.prog 27 #[.agg (stC x P C D).toArray, .int .i64 u, .int .i64 v, .int .i64 wd, .int .i64 ht] w
    fun r w' => ∃ P' C' D', r = .returned (.tuple #[.agg (stC Y.1 P' C' D').toArray, .int .i64 Y.2]) ∧ StOwn w' w.heap.size Y.1 P' C' D' ∧ Below w.heap.size w w' := by
  obtain ⟨w0, hw0⟩ : ∃ w0 : World, w0 = (w.alloc (.cells (stC x P C D).toArray 34)).alloc (.cells (stC zeroS (.slice none 0 0) (.slice none 0 0) (.slice none 0 0)).toArray 34) := ⟨_, rfl⟩
  have hB0 : Below w.heap.size w w0 := by rw [hw0]; exact bal (bal (Below.refl _ _) _) _
  have hA : BC w0 w.heap.size (stC x P C D) := by rw [hw0]; exact (BC.new (stC x P C D) 34 rfl).below (bal (Below.refl _ _) _)
  have hR : BC w0 (w.heap.size + 1) (stC zeroS (.slice none 0 0) (.slice none 0 0) (.slice none 0 0)) := by rw [hw0]; exact BC.new (w := w.alloc (.cells (stC x P C D).toArray 34)) _ 34 (by simp)
  have hgA := hA.lt
  have hgR := hR.lt
  have h0 := h.below hB0
  rw [zero_lit] at hw0
  obtain ⟨Ap, cp, rfl, hp, hpc, hpm⟩ := h0.p
  obtain ⟨np, hnp⟩ : ∃ n, n = x.p.length := ⟨_, rfl⟩
  rw [← hnp] at hw0 hA hp hpc h h0 ⊢
  have HY := Lib.hid hY
  have HM := Lib.hid fun W (hb : Below w0.heap.size w0 W) => stMay_any x (.slice Ap np cp) C D W (h0.below hb)
  have H0 := Lib.hid h0
  have HP := Lib.hid hp
  have HA := Lib.hid hA
  have HR := Lib.hid hR
  have HNP := Lib.hid hnp
  clear hY h0 h hp hA hR hnp
  go_enter Try.func27, Try.ntmps27
  go_upto_region 1 with (fail)
  rw [← hw0]
  clear hw0
  go_wp2_with (first
    | (refine wpList_load_rec rfl _ _ rfl w.heap.size rfl _ 24 stT HA.out rfl ?_)
    | fail)
  refine (HM.out _ (Below.refl _ _)).mono ?_; rintro e w1 ⟨rfl, hb1⟩
  have G1 := hb1
  have B1 := btr hB0 G1
  clear hb1
  cases hm : mayS x
  · have HY2 : Hid (Y = (zeroS, 1)) := Lib.hid (by rw [← HY.out]; unfold rectS; rw [hm]; simp)
    have hF := (HR.out.below G1).putAll (stC zeroS (.slice none 0 0) (.slice none 0 0) (.slice none 0 0)) rfl
    have hFB := below_setCells (Nat.le_succ w.heap.size) (stC zeroS (.slice none 0 0) (.slice none 0 0) (.slice none 0 0)) 0 _ (B1)
    go_wp2_with (first
      | (refine wpList_load_rec rfl _ _ rfl (w.heap.size + 1) rfl _ 24 stT (HR.out.below G1) rfl ?_)
      | (refine wpList_store_rec rfl _ _ _ rfl (w.heap.size + 1) (stC zeroS (.slice none 0 0) (.slice none 0 0) (.slice none 0 0)) _ rfl rfl 24 stT (HR.out.below G1) rfl rfl zero_one ?_)
      | fail)
    refine bodyPost_ret (result_rec rfl rfl rfl stT hF rfl) rfl ?_
    rw [HY2.out]
    exact ⟨_, _, _, rfl, zero_own _ _, hFB⟩
  · have hfew := mayS_few hm
    have hnp3 : np ≤ 1000 := by rw [HNP.out]; exact hfew.1
    have HFEW := Lib.hid hfew
    clear hfew
    go_wp2_with fail
    refine (stmay_any _ 4 _ [u, v, wd, ht] _ (by omega) (sl_new (w := w1) (t := 3) (ints [u, v, wd, ht]) rfl rfl)).mono ?_; rintro e w' ⟨rfl, rfl⟩
    have G2 := bal G1 (.cells (ints [u, v, wd, ht]).toArray 3)
    have B2 := bal B1 (.cells (ints [u, v, wd, ht]).toArray 3)
    obtain ⟨w2, hw2⟩ : ∃ w2, w2 = w1.alloc (.cells (ints [u, v, wd, ht]).toArray 3) := ⟨_, rfl⟩
    rw [← hw2] at G2 B2 ⊢
    clear hw2
    cases hf : [u, v, wd, ht].all fixB
    · have HY2 : Hid (Y = (zeroS, 1)) := Lib.hid (by rw [← HY.out]; unfold rectS; rw [hm, hf]; simp)
      have hF := (HR.out.below G2).putAll (stC zeroS (.slice none 0 0) (.slice none 0 0) (.slice none 0 0)) rfl
      have hFB := below_setCells (Nat.le_succ w.heap.size) (stC zeroS (.slice none 0 0) (.slice none 0 0) (.slice none 0 0)) 0 _ (B2)
      go_wp2_with (first
        | (refine wpList_load_rec rfl _ _ rfl (w.heap.size + 1) rfl _ 24 stT (HR.out.below G2) rfl ?_)
        | (refine wpList_store_rec rfl _ _ _ rfl (w.heap.size + 1) (stC zeroS (.slice none 0 0) (.slice none 0 0) (.slice none 0 0)) _ rfl rfl 24 stT (HR.out.below G2) rfl rfl zero_one ?_)
        | fail)
      refine bodyPost_ret (result_rec rfl rfl rfl stT hF rfl) rfl ?_
      rw [HY2.out]
      exact ⟨_, _, _, rfl, zero_own _ _, hFB⟩
    · obtain ⟨f1, f2, f3, f4⟩ : fixB u = true ∧ fixB v = true ∧ fixB wd = true ∧ fixB ht = true := by simpa using hf
      have HY3 : Hid (Y = if firstE (rcE (pointM x.m) u v wd ht) ≠ 0 then (zeroS, firstE (rcE (pointM x.m) u v wd ht)) else withS x (joinL x.p (rcL (pointM x.m) u v wd ht 4 ++ [⟨4, 0, 0, 0, 0⟩]))) := Lib.hid (by rw [← HY.out]; unfold rectS; rw [hm, hf]; simp)
      have HU := Lib.hid fun W => fixAdd_any u wd W f1 f3
      have HV := Lib.hid fun W => fixAdd_any v ht W f2 f4
      obtain ⟨p, hp⟩ : ∃ p, fixB (u + wd) = p := ⟨_, rfl⟩
      obtain ⟨q, hq⟩ : ∃ q, fixB (v + ht) = q := ⟨_, rfl⟩
      obtain ⟨x1, hx1⟩ : ∃ x1, x1 = if p = true then u + wd else 0 := ⟨_, rfl⟩
      obtain ⟨y1, hy1⟩ : ∃ y1, y1 = if q = true then v + ht else 0 := ⟨_, rfl⟩
      rw [hp, ← hx1] at HU
      rw [hq, ← hy1] at HV
      obtain ⟨F, hF⟩ : ∃ F, F = pointM x.m := ⟨_, rfl⟩
      have HFB := Lib.hid (show ∀ a b, -8191 ≤ (F a b).1 ∧ (F a b).1 ≤ 8191 ∧ -8191 ≤ (F a b).2.1 ∧ (F a b).2.1 ≤ 8191 by rw [hF]; exact pointM_bd x.m)
      have HPt := Lib.hid fun a b W => matPoint_any x.m a b W
      rw [← hF] at HY3 HPt
      unfold vP mtv at HPt
      have HP1 := Lib.hid hp
      have HQ1 := Lib.hid hq
      have HX1 := Lib.hid hx1
      have HY1 := Lib.hid hy1
      clear hp hq hx1 hy1 hF f1 f2 f3 f4 HY hf hm
      go_wp2_with fail
      refine (HU.out _).mono ?_; rintro e w' ⟨rfl, rfl⟩
      go_wp2_with fail
      refine (HV.out _).mono ?_; rintro e w' ⟨rfl, rfl⟩
      go_wp2_with fail
      go_loopw [16, 60] (fun s16 s60 wr => ∃ (i : Nat) (A : Option Addr) (c : Nat), i ≤ 4 ∧ s16 = .slice A i c ∧ s60 = .int .i64 (i : Int) ∧ Hid (∀ j, j < i → rcE F u v wd ht j = 0) ∧
        wr.ownsRow w0.heap.size 42 5 (.slice A i c) i (sgs (rcL F u v wd ht i)) ∧ Below w0.heap.size w0 wr) (fun _ s60 _ => 4 - (intOf s60).toNat)
      case atStart => exact ⟨0, none, 0, by omega, rfl, by go_num, Lib.hid (fun j hj => by omega), own_nil, G2⟩
      case round =>
        obtain ⟨wo, rfl⟩ : ∃ wo : World, wo = wr := ⟨_, rfl⟩
        obtain ⟨i, A, c, hi, rfl, rfl, hprev, hown, hbo⟩ := hrel
        have hc : i = 0 ∨ i = 1 ∨ i = 2 ∨ i = 3 ∨ i = 4 := by omega
        rcases hc with rfl | rfl | rfl | rfl | rfl
        · have ix := fun W => (idx4p u v x1 v x1 y1 u y1 W).1
          have HX := Lib.hid ix
          have ix := fun W => HX.out W
          have G5 : Below w0.heap.size w0 (wo.alloc (.cells #[.int .i64 (u), .int .i64 (v)] 94)) := bal hbo _
          have own5 := own_below hown (bal (Below.refl _ _) (.cells #[.int .i64 (u), .int .i64 (v)] 94))
          have N5 : BC (wo.alloc (.cells #[.int .i64 (u), .int .i64 (v)] 94)) wo.heap.size [.int .i64 (u), .int .i64 (v)] := BC.new [.int .i64 (u), .int .i64 (v)] 94 rfl
          obtain ⟨w5, hw5⟩ : ∃ w5, w5 = wo.alloc (.cells #[.int .i64 (u), .int .i64 (v)] 94) := ⟨_, rfl⟩
          rw [← hw5] at G5 own5 N5
          have B5 := btr hB0 G5
          go_upto_region 9 with (fail)
          rw [← hw5]
          clear hw5 hown hbo ix HX
          have hrx : rcX u wd 0 = u := by simp [rcX, rcY]
          have hry : rcY v ht 0 = v := by simp [rcY, rcY]
          have HRE2 : Hid (rcE F u v wd ht 0 = (F (u) (v)).2.2) := Lib.hid (by unfold rcE; rw [HP1.out, HQ1.out, hrx, hry]; simp)
          have HSG : Hid (rcSeg F u v wd ht 0 = ⟨1, (F (u) (v)).1, (F (u) (v)).2.1, 0, 0⟩) := Lib.hid (by unfold rcSeg; rw [hrx, hry]; rfl)
          have HPQ := Lib.hid (HPt.out (u) (v) w5)
          obtain ⟨⟨px, py, pe⟩, hq⟩ : ∃ p, F (u) (v) = p := ⟨_, rfl⟩
          rw [hq] at HPQ HRE2 HSG
          simp only at HPQ HRE2 HSG
          clear hq hrx hry
          have A5 := HA.out.below G5
          have a0 := A5.c 0 _ rfl
          have a1 := A5.c 1 _ rfl
          have a2 := A5.c 2 _ rfl
          have a3 := A5.c 3 _ rfl
          have a4 := A5.c 4 _ rfl
          have a5 := A5.c 5 _ rfl
          have n0 := N5.c 0 _ rfl
          have n1 := N5.c 1 _ rfl
          go_wp2_with fail
          refine HPQ.out.mono ?_; rintro e w6 ⟨rfl, hb6⟩
          have G6 := btr G5 hb6
          have B6 := btr B5 hb6
          have own6 := own_below own5 hb6
          clear own5 hb6 A5 HPQ a0 a1 a2 a3 a4 a5 n0 n1 N5
          by_cases hpe : pe = 0
          · subst hpe
            have HPREV : Hid (∀ j, j < 0 + 1 → rcE F u v wd ht j = 0) := Lib.hid (fun j hj => by
              rcases Nat.lt_or_ge j 0 with h | h
              · exact hprev.out j h
              · obtain rfl : j = 0 := by omega
                exact HRE2.out)
            go_wp2_with fail
            refine (Start_any A 0 c px py (rcL F u v wd ht 0) (rcL F u v wd ht 1, 0) _ (by omega) (own_cap own6) (own_sl own6) (rc_start2 HFB.out HSG.out)).mono ?_; rintro e w7 ⟨A7, c7, rfl, hown7, hb7⟩
            have G7 := btr G6 hb7
            simp only [rcL_len] at hown7 ⊢
            have hown8 := own_mono hown7 G6.size
            clear hown7 own6
            go_wp2_with fail
            go_roundw
            case rel => exact ⟨0 + 1, A7, c7, by omega, rfl, by go_num, HPREV, hown8, G7⟩
            case measure => simp [intOf]
          · have hfe : firstE (rcE F u v wd ht) = pe := by rw [firstE_at (show 0 < 4 by omega) hprev.out (by rw [HRE2.out]; exact hpe), HRE2.out]
            have HY2 : Hid (Y = (zeroS, pe)) := Lib.hid (by rw [HY3.out, hfe]; simp [hpe])
            have he0 : (pe == 0) = false := by simp [hpe]
            clear hfe own6
            have hF := (HR.out.below G6).putAll (stC zeroS (.slice none 0 0) (.slice none 0 0) (.slice none 0 0)) rfl
            have hFB := below_setCells (Nat.le_succ w.heap.size) (stC zeroS (.slice none 0 0) (.slice none 0 0) (.slice none 0 0)) 0 _ (B6)
            go_wp2_with (first
              | (refine wpList_load_rec rfl _ _ rfl (w.heap.size + 1) rfl _ 24 stT (HR.out.below G6) rfl ?_)
              | (refine wpList_store_rec rfl _ _ _ rfl (w.heap.size + 1) (stC zeroS (.slice none 0 0) (.slice none 0 0) (.slice none 0 0)) _ rfl rfl 24 stT (HR.out.below G6) rfl rfl zero_one ?_)
              | fail)
            refine bodyPost_ret (result_rec rfl rfl rfl stT hF rfl) rfl ?_
            rw [HY2.out]
            exact ⟨_, _, _, rfl, zero_own _ _, hFB⟩
        · have ix := fun W => (idx4p u v x1 v x1 y1 u y1 W).2.1
          have HX := Lib.hid ix
          have ix := fun W => HX.out W
          have G5 : Below w0.heap.size w0 (wo.alloc (.cells #[.int .i64 (x1), .int .i64 (v)] 94)) := bal hbo _
          have own5 := own_below hown (bal (Below.refl _ _) (.cells #[.int .i64 (x1), .int .i64 (v)] 94))
          have N5 : BC (wo.alloc (.cells #[.int .i64 (x1), .int .i64 (v)] 94)) wo.heap.size [.int .i64 (x1), .int .i64 (v)] := BC.new [.int .i64 (x1), .int .i64 (v)] 94 rfl
          obtain ⟨w5, hw5⟩ : ∃ w5, w5 = wo.alloc (.cells #[.int .i64 (x1), .int .i64 (v)] 94) := ⟨_, rfl⟩
          rw [← hw5] at G5 own5 N5
          have B5 := btr hB0 G5
          go_upto_region 9 with (fail)
          rw [← hw5]
          clear hw5 hown hbo ix HX
          cases p
          · have he2 : rcE F u v wd ht 1 = 2 := by unfold rcE; rw [HP1.out, HQ1.out]; simp
            have hfe : firstE (rcE F u v wd ht) = 2 := by rw [firstE_at (show 1 < 4 by omega) hprev.out (by rw [he2]; omega), he2]
            have HY2 : Hid (Y = (zeroS, 2)) := Lib.hid (by rw [HY3.out, hfe]; rfl)
            clear he2 hfe own5
            have hF := (HR.out.below G5).putAll (stC zeroS (.slice none 0 0) (.slice none 0 0) (.slice none 0 0)) rfl
            have hFB := below_setCells (Nat.le_succ w.heap.size) (stC zeroS (.slice none 0 0) (.slice none 0 0) (.slice none 0 0)) 0 _ (B5)
            go_wp2_with (first
              | (refine wpList_load_rec rfl _ _ rfl (w.heap.size + 1) rfl _ 24 stT (HR.out.below G5) rfl ?_)
              | (refine wpList_store_rec rfl _ _ _ rfl (w.heap.size + 1) (stC zeroS (.slice none 0 0) (.slice none 0 0) (.slice none 0 0)) _ rfl rfl 24 stT (HR.out.below G5) rfl rfl zero_one ?_)
              | fail)
            refine bodyPost_ret (result_rec rfl rfl rfl stT hF rfl) rfl ?_
            rw [HY2.out]
            exact ⟨_, _, _, rfl, zero_own _ _, hFB⟩
          · have HXE : Hid (x1 = u + wd) := Lib.hid (by rw [HX1.out]; simp)
            have hrx : rcX u wd 1 = x1 := by simp [rcX, HXE.out]
            have hry : rcY v ht 1 = v := by simp [rcY, HXE.out]
            have HRE2 : Hid (rcE F u v wd ht 1 = (F (x1) (v)).2.2) := Lib.hid (by unfold rcE; rw [HP1.out, HQ1.out, hrx, hry]; simp)
            have HSG : Hid (rcSeg F u v wd ht 1 = ⟨2, (F (x1) (v)).1, (F (x1) (v)).2.1, 0, 0⟩) := Lib.hid (by unfold rcSeg; rw [hrx, hry]; rfl)
            have HPQ := Lib.hid (HPt.out (x1) (v) w5)
            obtain ⟨⟨px, py, pe⟩, hq⟩ : ∃ p, F (x1) (v) = p := ⟨_, rfl⟩
            rw [hq] at HPQ HRE2 HSG
            simp only at HPQ HRE2 HSG
            clear hq hrx hry
            have A5 := HA.out.below G5
            have a0 := A5.c 0 _ rfl
            have a1 := A5.c 1 _ rfl
            have a2 := A5.c 2 _ rfl
            have a3 := A5.c 3 _ rfl
            have a4 := A5.c 4 _ rfl
            have a5 := A5.c 5 _ rfl
            have n0 := N5.c 0 _ rfl
            have n1 := N5.c 1 _ rfl
            go_wp2_with fail
            refine HPQ.out.mono ?_; rintro e w6 ⟨rfl, hb6⟩
            have G6 := btr G5 hb6
            have B6 := btr B5 hb6
            have own6 := own_below own5 hb6
            clear own5 hb6 A5 HPQ a0 a1 a2 a3 a4 a5 n0 n1 N5
            by_cases hpe : pe = 0
            · subst hpe
              have HPREV : Hid (∀ j, j < 1 + 1 → rcE F u v wd ht j = 0) := Lib.hid (fun j hj => by
                rcases Nat.lt_or_ge j 1 with h | h
                · exact hprev.out j h
                · obtain rfl : j = 1 := by omega
                  exact HRE2.out)
              go_wp2_with fail
              refine (Line_any A 1 c px py (rcL F u v wd ht 1) (rcL F u v wd ht 2, 0) _ (by omega) (own_sl own6) (rc_on2 HFB.out 1 (by omega) (by omega) HSG.out)).mono ?_; rintro e w7 ⟨A7, c7, rfl, hown7, hb7⟩
              have G7 := btr G6 hb7
              simp only [rcL_len] at hown7 ⊢
              have hown8 := own_mono hown7 G6.size
              clear hown7 own6
              go_wp2_with fail
              go_roundw
              case rel => exact ⟨1 + 1, A7, c7, by omega, rfl, by go_num, HPREV, hown8, G7⟩
              case measure => simp [intOf]
            · have hfe : firstE (rcE F u v wd ht) = pe := by rw [firstE_at (show 1 < 4 by omega) hprev.out (by rw [HRE2.out]; exact hpe), HRE2.out]
              have HY2 : Hid (Y = (zeroS, pe)) := Lib.hid (by rw [HY3.out, hfe]; simp [hpe])
              have he0 : (pe == 0) = false := by simp [hpe]
              clear hfe own6
              have hF := (HR.out.below G6).putAll (stC zeroS (.slice none 0 0) (.slice none 0 0) (.slice none 0 0)) rfl
              have hFB := below_setCells (Nat.le_succ w.heap.size) (stC zeroS (.slice none 0 0) (.slice none 0 0) (.slice none 0 0)) 0 _ (B6)
              go_wp2_with (first
                | (refine wpList_load_rec rfl _ _ rfl (w.heap.size + 1) rfl _ 24 stT (HR.out.below G6) rfl ?_)
                | (refine wpList_store_rec rfl _ _ _ rfl (w.heap.size + 1) (stC zeroS (.slice none 0 0) (.slice none 0 0) (.slice none 0 0)) _ rfl rfl 24 stT (HR.out.below G6) rfl rfl zero_one ?_)
                | fail)
              refine bodyPost_ret (result_rec rfl rfl rfl stT hF rfl) rfl ?_
              rw [HY2.out]
              exact ⟨_, _, _, rfl, zero_own _ _, hFB⟩
        · have ix := fun W => (idx4p u v x1 v x1 y1 u y1 W).2.2.1
          have HX := Lib.hid ix
          have ix := fun W => HX.out W
          have G5 : Below w0.heap.size w0 (wo.alloc (.cells #[.int .i64 (x1), .int .i64 (y1)] 94)) := bal hbo _
          have own5 := own_below hown (bal (Below.refl _ _) (.cells #[.int .i64 (x1), .int .i64 (y1)] 94))
          have N5 : BC (wo.alloc (.cells #[.int .i64 (x1), .int .i64 (y1)] 94)) wo.heap.size [.int .i64 (x1), .int .i64 (y1)] := BC.new [.int .i64 (x1), .int .i64 (y1)] 94 rfl
          obtain ⟨w5, hw5⟩ : ∃ w5, w5 = wo.alloc (.cells #[.int .i64 (x1), .int .i64 (y1)] 94) := ⟨_, rfl⟩
          rw [← hw5] at G5 own5 N5
          have B5 := btr hB0 G5
          go_upto_region 9 with (fail)
          rw [← hw5]
          clear hw5 hown hbo ix HX
          cases p
          · have he2 : rcE F u v wd ht 2 = 2 := by unfold rcE; rw [HP1.out, HQ1.out]; simp
            have hfe : firstE (rcE F u v wd ht) = 2 := by rw [firstE_at (show 2 < 4 by omega) hprev.out (by rw [he2]; omega), he2]
            have HY2 : Hid (Y = (zeroS, 2)) := Lib.hid (by rw [HY3.out, hfe]; rfl)
            clear he2 hfe own5
            have hF := (HR.out.below G5).putAll (stC zeroS (.slice none 0 0) (.slice none 0 0) (.slice none 0 0)) rfl
            have hFB := below_setCells (Nat.le_succ w.heap.size) (stC zeroS (.slice none 0 0) (.slice none 0 0) (.slice none 0 0)) 0 _ (B5)
            go_wp2_with (first
              | (refine wpList_load_rec rfl _ _ rfl (w.heap.size + 1) rfl _ 24 stT (HR.out.below G5) rfl ?_)
              | (refine wpList_store_rec rfl _ _ _ rfl (w.heap.size + 1) (stC zeroS (.slice none 0 0) (.slice none 0 0) (.slice none 0 0)) _ rfl rfl 24 stT (HR.out.below G5) rfl rfl zero_one ?_)
              | fail)
            refine bodyPost_ret (result_rec rfl rfl rfl stT hF rfl) rfl ?_
            rw [HY2.out]
            exact ⟨_, _, _, rfl, zero_own _ _, hFB⟩
          · cases q
            · have he2 : rcE F u v wd ht 2 = 2 := by unfold rcE; rw [HP1.out, HQ1.out]; simp
              have hfe : firstE (rcE F u v wd ht) = 2 := by rw [firstE_at (show 2 < 4 by omega) hprev.out (by rw [he2]; omega), he2]
              have HY2 : Hid (Y = (zeroS, 2)) := Lib.hid (by rw [HY3.out, hfe]; rfl)
              clear he2 hfe own5
              have hF := (HR.out.below G5).putAll (stC zeroS (.slice none 0 0) (.slice none 0 0) (.slice none 0 0)) rfl
              have hFB := below_setCells (Nat.le_succ w.heap.size) (stC zeroS (.slice none 0 0) (.slice none 0 0) (.slice none 0 0)) 0 _ (B5)
              go_wp2_with (first
                | (refine wpList_load_rec rfl _ _ rfl (w.heap.size + 1) rfl _ 24 stT (HR.out.below G5) rfl ?_)
                | (refine wpList_store_rec rfl _ _ _ rfl (w.heap.size + 1) (stC zeroS (.slice none 0 0) (.slice none 0 0) (.slice none 0 0)) _ rfl rfl 24 stT (HR.out.below G5) rfl rfl zero_one ?_)
                | fail)
              refine bodyPost_ret (result_rec rfl rfl rfl stT hF rfl) rfl ?_
              rw [HY2.out]
              exact ⟨_, _, _, rfl, zero_own _ _, hFB⟩
            · have HXE : Hid (x1 = u + wd) := Lib.hid (by rw [HX1.out]; simp)
              have HYE : Hid (y1 = v + ht) := Lib.hid (by rw [HY1.out]; simp)
              have hrx : rcX u wd 2 = x1 := by simp [rcX, HXE.out, HYE.out]
              have hry : rcY v ht 2 = y1 := by simp [rcY, HXE.out, HYE.out]
              have HRE2 : Hid (rcE F u v wd ht 2 = (F (x1) (y1)).2.2) := Lib.hid (by unfold rcE; rw [HP1.out, HQ1.out, hrx, hry]; simp)
              have HSG : Hid (rcSeg F u v wd ht 2 = ⟨2, (F (x1) (y1)).1, (F (x1) (y1)).2.1, 0, 0⟩) := Lib.hid (by unfold rcSeg; rw [hrx, hry]; rfl)
              have HPQ := Lib.hid (HPt.out (x1) (y1) w5)
              obtain ⟨⟨px, py, pe⟩, hq⟩ : ∃ p, F (x1) (y1) = p := ⟨_, rfl⟩
              rw [hq] at HPQ HRE2 HSG
              simp only at HPQ HRE2 HSG
              clear hq hrx hry
              have A5 := HA.out.below G5
              have a0 := A5.c 0 _ rfl
              have a1 := A5.c 1 _ rfl
              have a2 := A5.c 2 _ rfl
              have a3 := A5.c 3 _ rfl
              have a4 := A5.c 4 _ rfl
              have a5 := A5.c 5 _ rfl
              have n0 := N5.c 0 _ rfl
              have n1 := N5.c 1 _ rfl
              go_wp2_with fail
              refine HPQ.out.mono ?_; rintro e w6 ⟨rfl, hb6⟩
              have G6 := btr G5 hb6
              have B6 := btr B5 hb6
              have own6 := own_below own5 hb6
              clear own5 hb6 A5 HPQ a0 a1 a2 a3 a4 a5 n0 n1 N5
              by_cases hpe : pe = 0
              · subst hpe
                have HPREV : Hid (∀ j, j < 2 + 1 → rcE F u v wd ht j = 0) := Lib.hid (fun j hj => by
                  rcases Nat.lt_or_ge j 2 with h | h
                  · exact hprev.out j h
                  · obtain rfl : j = 2 := by omega
                    exact HRE2.out)
                go_wp2_with fail
                refine (Line_any A 2 c px py (rcL F u v wd ht 2) (rcL F u v wd ht 3, 0) _ (by omega) (own_sl own6) (rc_on2 HFB.out 2 (by omega) (by omega) HSG.out)).mono ?_; rintro e w7 ⟨A7, c7, rfl, hown7, hb7⟩
                have G7 := btr G6 hb7
                simp only [rcL_len] at hown7 ⊢
                have hown8 := own_mono hown7 G6.size
                clear hown7 own6
                go_wp2_with fail
                go_roundw
                case rel => exact ⟨2 + 1, A7, c7, by omega, rfl, by go_num, HPREV, hown8, G7⟩
                case measure => simp [intOf]
              · have hfe : firstE (rcE F u v wd ht) = pe := by rw [firstE_at (show 2 < 4 by omega) hprev.out (by rw [HRE2.out]; exact hpe), HRE2.out]
                have HY2 : Hid (Y = (zeroS, pe)) := Lib.hid (by rw [HY3.out, hfe]; simp [hpe])
                have he0 : (pe == 0) = false := by simp [hpe]
                clear hfe own6
                have hF := (HR.out.below G6).putAll (stC zeroS (.slice none 0 0) (.slice none 0 0) (.slice none 0 0)) rfl
                have hFB := below_setCells (Nat.le_succ w.heap.size) (stC zeroS (.slice none 0 0) (.slice none 0 0) (.slice none 0 0)) 0 _ (B6)
                go_wp2_with (first
                  | (refine wpList_load_rec rfl _ _ rfl (w.heap.size + 1) rfl _ 24 stT (HR.out.below G6) rfl ?_)
                  | (refine wpList_store_rec rfl _ _ _ rfl (w.heap.size + 1) (stC zeroS (.slice none 0 0) (.slice none 0 0) (.slice none 0 0)) _ rfl rfl 24 stT (HR.out.below G6) rfl rfl zero_one ?_)
                  | fail)
                refine bodyPost_ret (result_rec rfl rfl rfl stT hF rfl) rfl ?_
                rw [HY2.out]
                exact ⟨_, _, _, rfl, zero_own _ _, hFB⟩
        · have ix := fun W => (idx4p u v x1 v x1 y1 u y1 W).2.2.2
          have HX := Lib.hid ix
          have ix := fun W => HX.out W
          have G5 : Below w0.heap.size w0 (wo.alloc (.cells #[.int .i64 (u), .int .i64 (y1)] 94)) := bal hbo _
          have own5 := own_below hown (bal (Below.refl _ _) (.cells #[.int .i64 (u), .int .i64 (y1)] 94))
          have N5 : BC (wo.alloc (.cells #[.int .i64 (u), .int .i64 (y1)] 94)) wo.heap.size [.int .i64 (u), .int .i64 (y1)] := BC.new [.int .i64 (u), .int .i64 (y1)] 94 rfl
          obtain ⟨w5, hw5⟩ : ∃ w5, w5 = wo.alloc (.cells #[.int .i64 (u), .int .i64 (y1)] 94) := ⟨_, rfl⟩
          rw [← hw5] at G5 own5 N5
          have B5 := btr hB0 G5
          go_upto_region 9 with (fail)
          rw [← hw5]
          clear hw5 hown hbo ix HX
          cases p
          · have he2 : rcE F u v wd ht 3 = 2 := by unfold rcE; rw [HP1.out, HQ1.out]; simp
            have hfe : firstE (rcE F u v wd ht) = 2 := by rw [firstE_at (show 3 < 4 by omega) hprev.out (by rw [he2]; omega), he2]
            have HY2 : Hid (Y = (zeroS, 2)) := Lib.hid (by rw [HY3.out, hfe]; rfl)
            clear he2 hfe own5
            have hF := (HR.out.below G5).putAll (stC zeroS (.slice none 0 0) (.slice none 0 0) (.slice none 0 0)) rfl
            have hFB := below_setCells (Nat.le_succ w.heap.size) (stC zeroS (.slice none 0 0) (.slice none 0 0) (.slice none 0 0)) 0 _ (B5)
            go_wp2_with (first
              | (refine wpList_load_rec rfl _ _ rfl (w.heap.size + 1) rfl _ 24 stT (HR.out.below G5) rfl ?_)
              | (refine wpList_store_rec rfl _ _ _ rfl (w.heap.size + 1) (stC zeroS (.slice none 0 0) (.slice none 0 0) (.slice none 0 0)) _ rfl rfl 24 stT (HR.out.below G5) rfl rfl zero_one ?_)
              | fail)
            refine bodyPost_ret (result_rec rfl rfl rfl stT hF rfl) rfl ?_
            rw [HY2.out]
            exact ⟨_, _, _, rfl, zero_own _ _, hFB⟩
          · cases q
            · have he2 : rcE F u v wd ht 3 = 2 := by unfold rcE; rw [HP1.out, HQ1.out]; simp
              have hfe : firstE (rcE F u v wd ht) = 2 := by rw [firstE_at (show 3 < 4 by omega) hprev.out (by rw [he2]; omega), he2]
              have HY2 : Hid (Y = (zeroS, 2)) := Lib.hid (by rw [HY3.out, hfe]; rfl)
              clear he2 hfe own5
              have hF := (HR.out.below G5).putAll (stC zeroS (.slice none 0 0) (.slice none 0 0) (.slice none 0 0)) rfl
              have hFB := below_setCells (Nat.le_succ w.heap.size) (stC zeroS (.slice none 0 0) (.slice none 0 0) (.slice none 0 0)) 0 _ (B5)
              go_wp2_with (first
                | (refine wpList_load_rec rfl _ _ rfl (w.heap.size + 1) rfl _ 24 stT (HR.out.below G5) rfl ?_)
                | (refine wpList_store_rec rfl _ _ _ rfl (w.heap.size + 1) (stC zeroS (.slice none 0 0) (.slice none 0 0) (.slice none 0 0)) _ rfl rfl 24 stT (HR.out.below G5) rfl rfl zero_one ?_)
                | fail)
              refine bodyPost_ret (result_rec rfl rfl rfl stT hF rfl) rfl ?_
              rw [HY2.out]
              exact ⟨_, _, _, rfl, zero_own _ _, hFB⟩
            · have HYE : Hid (y1 = v + ht) := Lib.hid (by rw [HY1.out]; simp)
              have hrx : rcX u wd 3 = u := by simp [rcX, HYE.out]
              have hry : rcY v ht 3 = y1 := by simp [rcY, HYE.out]
              have HRE2 : Hid (rcE F u v wd ht 3 = (F (u) (y1)).2.2) := Lib.hid (by unfold rcE; rw [HP1.out, HQ1.out, hrx, hry]; simp)
              have HSG : Hid (rcSeg F u v wd ht 3 = ⟨2, (F (u) (y1)).1, (F (u) (y1)).2.1, 0, 0⟩) := Lib.hid (by unfold rcSeg; rw [hrx, hry]; rfl)
              have HPQ := Lib.hid (HPt.out (u) (y1) w5)
              obtain ⟨⟨px, py, pe⟩, hq⟩ : ∃ p, F (u) (y1) = p := ⟨_, rfl⟩
              rw [hq] at HPQ HRE2 HSG
              simp only at HPQ HRE2 HSG
              clear hq hrx hry
              have A5 := HA.out.below G5
              have a0 := A5.c 0 _ rfl
              have a1 := A5.c 1 _ rfl
              have a2 := A5.c 2 _ rfl
              have a3 := A5.c 3 _ rfl
              have a4 := A5.c 4 _ rfl
              have a5 := A5.c 5 _ rfl
              have n0 := N5.c 0 _ rfl
              have n1 := N5.c 1 _ rfl
              go_wp2_with fail
              refine HPQ.out.mono ?_; rintro e w6 ⟨rfl, hb6⟩
              have G6 := btr G5 hb6
              have B6 := btr B5 hb6
              have own6 := own_below own5 hb6
              clear own5 hb6 A5 HPQ a0 a1 a2 a3 a4 a5 n0 n1 N5
              by_cases hpe : pe = 0
              · subst hpe
                have HPREV : Hid (∀ j, j < 3 + 1 → rcE F u v wd ht j = 0) := Lib.hid (fun j hj => by
                  rcases Nat.lt_or_ge j 3 with h | h
                  · exact hprev.out j h
                  · obtain rfl : j = 3 := by omega
                    exact HRE2.out)
                go_wp2_with fail
                refine (Line_any A 3 c px py (rcL F u v wd ht 3) (rcL F u v wd ht 4, 0) _ (by omega) (own_sl own6) (rc_on2 HFB.out 3 (by omega) (by omega) HSG.out)).mono ?_; rintro e w7 ⟨A7, c7, rfl, hown7, hb7⟩
                have G7 := btr G6 hb7
                simp only [rcL_len] at hown7 ⊢
                have hown8 := own_mono hown7 G6.size
                clear hown7 own6
                go_wp2_with fail
                go_roundw
                case rel => exact ⟨3 + 1, A7, c7, by omega, rfl, by go_num, HPREV, hown8, G7⟩
                case measure => simp [intOf]
              · have hfe : firstE (rcE F u v wd ht) = pe := by rw [firstE_at (show 3 < 4 by omega) hprev.out (by rw [HRE2.out]; exact hpe), HRE2.out]
                have HY2 : Hid (Y = (zeroS, pe)) := Lib.hid (by rw [HY3.out, hfe]; simp [hpe])
                have he0 : (pe == 0) = false := by simp [hpe]
                clear hfe own6
                have hF := (HR.out.below G6).putAll (stC zeroS (.slice none 0 0) (.slice none 0 0) (.slice none 0 0)) rfl
                have hFB := below_setCells (Nat.le_succ w.heap.size) (stC zeroS (.slice none 0 0) (.slice none 0 0) (.slice none 0 0)) 0 _ (B6)
                go_wp2_with (first
                  | (refine wpList_load_rec rfl _ _ rfl (w.heap.size + 1) rfl _ 24 stT (HR.out.below G6) rfl ?_)
                  | (refine wpList_store_rec rfl _ _ _ rfl (w.heap.size + 1) (stC zeroS (.slice none 0 0) (.slice none 0 0) (.slice none 0 0)) _ rfl rfl 24 stT (HR.out.below G6) rfl rfl zero_one ?_)
                  | fail)
                refine bodyPost_ret (result_rec rfl rfl rfl stT hF rfl) rfl ?_
                rw [HY2.out]
                exact ⟨_, _, _, rfl, zero_own _ _, hFB⟩
        · have HSH := Lib.hid (rc_shut (u := u) (v := v) (wd := wd) (ht := ht) HFB.out)
          have HY5 : Hid (Y = withS x (joinL x.p (rcL F u v wd ht 4 ++ [⟨4, 0, 0, 0, 0⟩]))) := Lib.hid (by rw [HY3.out, firstE_none hprev.out]; simp)
          obtain ⟨L, hL⟩ : ∃ L, rcL F u v wd ht 4 ++ [⟨4, 0, 0, 0, 0⟩] = L := ⟨_, rfl⟩
          have hLn : L.length = 5 := by rw [← hL, List.length_append, rcL_len]; rfl
          rw [hL] at HSH HY5
          obtain ⟨E, hE⟩ : ∃ E, joinL x.p L = E := ⟨_, rfl⟩
          have HY4 : Hid (Y = withS x E) := Lib.hid (by rw [HY5.out, hE])
          have hlen : E.1.length ≤ 300 := by rw [← hE]; exact joinL_le _ _
          have HE := Lib.hid hE
          clear hE HY5 HY3 hprev hL
          go_wp2_with fail
          refine (Shut_any A 4 c (rcL F u v wd ht 4) (L, 0) _ (by omega) (own_sl hown) HSH.out).mono ?_; rintro e w3 ⟨A3, c3, rfl, hown3, hb3⟩
          have G3 := btr hbo hb3
          have B3 := btr hB0 G3
          simp only [hLn] at hown3 ⊢
          have c6 := (HA.out.below G3).c 6 _ rfl
          clear hown hb3
          go_wp2_with fail
          refine (Join_any Ap A3 np cp 5 c3 x.p L E _ (by omega) (by omega) hpc (HP.out.below G3) (own_sl hown3) HE.out).mono ?_; rintro e w4 ⟨A4', c4', rfl, ho4, hb4⟩
          have G4 := btr G3 hb4
          have B4 := btr B3 hb4
          have A4 := HA.out.below G4
          have s4 := own_sl ho4
          obtain ⟨l, le⟩ := E
          simp only at s4 hlen HY4 ho4 ⊢
          obtain ⟨nl, hnl⟩ : ∃ n, n = l.length := ⟨_, rfl⟩
          rw [← hnl] at s4 hlen ⊢
          have HS4 := Lib.hid s4
          have HWN := Lib.hid fun (he : le ≠ 0) W (hb : Below w0.heap.size w0 W) => with_no x (.slice Ap np cp) C D A4' nl c4' le W (H0.out.below hb) he
          have HWO := Lib.hid fun W (hb : Below w4.heap.size w4 W) => with_ok x (.slice Ap np cp) C D A4' nl c4' l W (H0.out.below (btr G4 hb)) HFEW.out (HS4.out.below hb) (by omega)
          clear c6 hb4 s4 hnl ho4
          go_wp2_with (first
            | (refine wpList_load_rec rfl _ _ rfl w.heap.size rfl _ 24 stT A4 rfl ?_)
            | fail)
          by_cases hle : le = 0
          · subst hle
            have HY2 : Hid (Y = ({ x with p := l }, 0)) := Lib.hid (by rw [HY4.out]; simp [withS])
            refine (HWO.out _ (Below.refl _ _)).mono ?_; rintro e w5 ⟨P5, C5, D5, rfl, ho5, hb5⟩
            have G5 := btr G4 hb5
            have B5 := btr B4 hb5
            have R5 := HR.out.below G5
            have hone := ho5.at.one
            have ho6 := ho5.mono (show w0.heap.size ≤ w4.heap.size from G4.size)
            have hF := R5.putAll (stC { x with p := l } P5 C5 D5) rfl
            have hFB := below_setCells (Nat.le_succ w.heap.size) (stC { x with p := l } P5 C5 D5) 0 _ B5
            go_wp2_with (first
              | (refine wpList_store_rec rfl _ _ _ rfl (w.heap.size + 1) (stC { x with p := l } P5 C5 D5) _ rfl rfl 24 stT R5 rfl rfl hone ?_)
              | fail)
            refine bodyPost_ret (result_rec rfl rfl rfl stT hF rfl) rfl ?_
            rw [HY2.out]
            refine ⟨P5, C5, D5, rfl, ?_, hFB⟩
            exact (ho6.setCells hgR _ _).mono (Nat.le_of_lt hgA)
          · have HY2 : Hid (Y = (zeroS, le)) := Lib.hid (by rw [HY4.out]; simp [withS, hle])
            refine (HWN.out hle _ G4).mono ?_; rintro e w5 ⟨rfl, hb5⟩
            have G5 := btr G4 hb5
            have B5 := btr B4 hb5
            clear hle
            have hF := (HR.out.below G5).putAll (stC zeroS (.slice none 0 0) (.slice none 0 0) (.slice none 0 0)) rfl
            have hFB := below_setCells (Nat.le_succ w.heap.size) (stC zeroS (.slice none 0 0) (.slice none 0 0) (.slice none 0 0)) 0 _ (B5)
            go_wp2_with (first
              | (refine wpList_load_rec rfl _ _ rfl (w.heap.size + 1) rfl _ 24 stT (HR.out.below G5) rfl ?_)
              | (refine wpList_store_rec rfl _ _ _ rfl (w.heap.size + 1) (stC zeroS (.slice none 0 0) (.slice none 0 0) (.slice none 0 0)) _ rfl rfl 24 stT (HR.out.below G5) rfl rfl zero_one ?_)
              | fail)
            refine bodyPost_ret (result_rec rfl rfl rfl stT hF rfl) rfl ?_
            rw [HY2.out]
            exact ⟨_, _, _, rfl, zero_own _ _, hFB⟩
end Go.Proofs.Ytaadajadeemndaa
