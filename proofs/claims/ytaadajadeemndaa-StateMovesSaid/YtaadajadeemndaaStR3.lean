/- The reference: Move, Line, Bow, Shut of a state. -/
import Derived.Test.YtaadajadeemndaaStR2
namespace Go.Proofs.Ytaadajadeemndaa
open Go.RowKit Go.BigFrame

/-- What the reference answers: a path of its own, the other lists the state's, or none. -/
structure RefOut (w' : World) (B : Nat) (x y : St) (P' C' D' C D : Value) : Prop where
  p : w'.ownsRow B 42 5 P' y.p.length (sgs y.p)
  cd : (C' = C ∧ D' = D ∧ y.cl = x.cl ∧ y.da = x.da) ∨ (C' = .slice none 0 0 ∧ D' = .slice none 0 0 ∧ y.cl = [] ∧ y.da = [])
section
variable {w w' : World} {B : Nat} {x y : St} {P P' C' D' C D : Value}
theorem RefOut.at (h : RefOut w B x y P' C' D' C D) (hx : StAt w x P C D) : StAt w y P' C' D' := by
  obtain ⟨h1, h2⟩ := h
  rcases h2 with ⟨rfl, rfl, h3, h4⟩ | ⟨rfl, rfl, h3, h4⟩
  · exact ⟨own_pathV h1, by rw [h3]; exact hx.c, by rw [h4]; exact hx.d⟩
  · exact ⟨own_pathV h1, by rw [h3]; exact ClV.nil, by rw [h4]; exact IntsV.nil⟩
theorem RefOut.below (h : RefOut w B x y P' C' D' C D) (hb : Below w.heap.size w w') : RefOut w' B x y P' C' D' C D := ⟨own_below h.p hb, h.cd⟩
theorem RefOut.mono {B' : Nat} (h : RefOut w B x y P' C' D' C D) (hb : B' ≤ B) : RefOut w B' x y P' C' D' C D := ⟨own_mono h.p hb, h.cd⟩
theorem RefOut.setCells (h : RefOut w B x y P' C' D' C D) {g : Nat} (hg : g < B) (o : Nat) (vs : List Value) : RefOut (w.setCells g o vs) B x y P' C' D' C D := ⟨own_setCells hg _ _ _ h.p, h.cd⟩
theorem RefOut.zero : RefOut w B x zeroS (.slice none 0 0) (.slice none 0 0) (.slice none 0 0) C D := ⟨own_nil, .inr ⟨rfl, rfl, rfl, rfl⟩⟩
theorem RefOut.one (h : RefOut w B x y P' C' D' C D) (hx : StAt w x P C D) : ∀ v ∈ stC y P' C' D', v.oneCell' = true := (h.at hx).one
end

set_option maxRecDepth 100000 in
set_option maxHeartbeats 4000000 in
theorem rShutS_any (x : St) (P C D : Value) (Y : St × Int) (w : World) (h : StAt w x P C D) (hf : stFew x) (hY : shutS x = Y) : Calls Try.prog 30 #[.agg (stC x P C D).toArray] w
    fun r w' => ∃ P' C' D', r = .returned (.tuple #[.agg (stC Y.1 P' C' D').toArray, .int .i64 Y.2]) ∧ RefOut w' w.heap.size x Y.1 P' C' D' C D ∧ Below w.heap.size w w' := by
  have HS := Lib.hid h
  obtain ⟨w0, hw0⟩ : ∃ w0 : World, w0 = (w.alloc (.cells (stC x P C D).toArray 34)).alloc (.cells (stC zeroS (.slice none 0 0) (.slice none 0 0) (.slice none 0 0)).toArray 34) := ⟨_, rfl⟩
  have hB0 : Below w.heap.size w w0 := by rw [hw0]; exact bal (bal (Below.refl _ _) _) _
  have hA : BC w0 w.heap.size (stC x P C D) := by rw [hw0]; exact (BC.new (stC x P C D) 34 rfl).below (bal (Below.refl _ _) _)
  have hR : BC w0 (w.heap.size + 1) (stC zeroS (.slice none 0 0) (.slice none 0 0) (.slice none 0 0)) := by rw [hw0]; exact BC.new (w := w.alloc (.cells (stC x P C D).toArray 34)) _ 34 (by simp)
  have hgA := hA.lt
  have hgR := hR.lt
  have h0 := h.below hB0
  rw [zero_lit] at hw0
  obtain ⟨Ap, cp, rfl, hp, hpc, hpm⟩ := h0.p
  obtain ⟨np, hnp⟩ : ∃ n, n = x.p.length := ⟨_, rfl⟩
  rw [← hnp] at hw0 hA hp hpc h h0 HS ⊢
  have HY := Lib.hid hY
  have HM := Lib.hid fun W (hb : Below w0.heap.size w0 W) => rStMay_any x (.slice Ap np cp) C D W (h0.below hb) hf
  have H0 := Lib.hid h0
  have HP := Lib.hid hp
  have HA := Lib.hid hA
  have HR := Lib.hid hR
  have hnp3 : np ≤ 1000 := by rw [hnp]; exact hf.1
  have HFEW := Lib.hid hf
  clear hY h0 h hp hA hR hnp hf
  go_enter Try.func30, Try.ntmps30
  go_upto_region 1 with (fail)
  rw [← hw0]
  clear hw0
  go_wp2_with (first
    | (refine wpList_load_rec rfl _ _ rfl w.heap.size rfl _ 24 stT HA.out rfl ?_)
    | fail)
  refine (HM.out _ (Below.refl _ _)).mono ?_; rintro e w1 ⟨rfl, hb1⟩
  have G1 := hb1
  have B1 := btr hB0 G1
  clear hb1
  cases hm : mayS x
  · have HY2 : Hid (Y = (zeroS, 1)) := Lib.hid (by rw [← HY.out]; unfold shutS; rw [hm]; simp)
    have hF := (HR.out.below G1).putAll (stC zeroS (.slice none 0 0) (.slice none 0 0) (.slice none 0 0)) rfl
    have hFB := below_setCells (Nat.le_succ w.heap.size) (stC zeroS (.slice none 0 0) (.slice none 0 0) (.slice none 0 0)) 0 _ (B1)
    go_wp2_with (first
      | (refine wpList_store_rec rfl _ _ _ rfl (w.heap.size + 1) (stC zeroS (.slice none 0 0) (.slice none 0 0) (.slice none 0 0)) _ rfl rfl 24 stT (HR.out.below G1) rfl rfl zero_one ?_)
      | fail)
    try rw [Exit.noGoto_ret]
    refine bodyPost_ret (result_rec rfl rfl rfl stT hF rfl) rfl ?_
    rw [HY2.out]
    exact ⟨_, _, _, rfl, RefOut.zero, hFB⟩
  · obtain ⟨E, hE⟩ : ∃ E, shutL x.p = E := ⟨_, rfl⟩
    have HY4 : Hid (Y = withS x E) := Lib.hid (by rw [← HY.out]; unfold shutS; rw [hm, hE]; simp)
    have hlen : E.1.length ≤ 300 := by rw [← hE]; exact shutL_le _
    have HE := Lib.hid hE
    obtain ⟨w3, hw3⟩ : ∃ w3, w3 = w1 := ⟨_, rfl⟩
    have G3 := G1
    have B3 := B1
    rw [← hw3] at G3 B3 ⊢
    clear hw3
    have c6 := (HA.out.below G3).c 6 _ rfl
    clear hE HY G1 B1
    go_wp2_with fail
    refine (ref_Shut_any Ap np cp x.p E _ (by omega) (HP.out.below G3) HE.out).mono ?_; rintro e w4 ⟨A4', c4', rfl, ho4, hb4⟩
    have G4 := btr G3 hb4
    have B4 := btr B3 hb4
    have A4 := HA.out.below G4
    have hz3 : w0.heap.size ≤ w3.heap.size := G3.size
    obtain ⟨l, le⟩ := E
    simp only at hlen HY4 ho4 ⊢
    obtain ⟨nl, hnl⟩ : ∃ n, n = l.length := ⟨_, rfl⟩
    rw [← hnl] at hlen ⊢
    have HNL := Lib.hid hnl
    have HO4 := Lib.hid ho4
    have HWN := Lib.hid fun (he : le ≠ 0) W (hb : Below w0.heap.size w0 W) => rWith_no x (.slice Ap np cp) C D A4' nl c4' le W (H0.out.below hb) he
    have HWO := Lib.hid fun W (hb : Below w4.heap.size w4 W) => rWith_ok x (.slice Ap np cp) C D A4' nl c4' l W (H0.out.below (btr G4 hb))
    clear c6 hb4 hnl ho4
    go_wp2_with (first
      | (refine wpList_load_rec rfl _ _ rfl w.heap.size rfl _ 24 stT A4 rfl ?_)
      | fail)
    by_cases hle : le = 0
    · subst hle
      have HY2 : Hid (Y = ({ x with p := l }, 0)) := Lib.hid (by rw [HY4.out]; simp [withS])
      refine (HWO.out _ (Below.refl _ _)).mono ?_; rintro e w5 ⟨rfl, hb5⟩
      have G5 := btr G4 hb5
      have B5 := btr B4 hb5
      have R5 := HR.out.below G5
      have hone : ∀ v ∈ stC { x with p := l } (.slice A4' nl c4') C D, v.oneCell' = true := by
        obtain ⟨-, ⟨_, _, rfl, _⟩, ⟨_, _, rfl, _⟩⟩ := H0.out
        exact stC_one rfl rfl rfl
      have hF := R5.putAll (stC { x with p := l } (.slice A4' nl c4') C D) rfl
      have hFB := below_setCells (Nat.le_succ w.heap.size) (stC { x with p := l } (.slice A4' nl c4') C D) 0 _ B5
      have hoF := own_setCells (show w.heap.size + 1 < w3.heap.size by omega) (stC { x with p := l } (.slice A4' nl c4') C D) 0 _ (own_below HO4.out hb5)
      go_wp2_with (first
        | (refine wpList_store_rec rfl _ _ _ rfl (w.heap.size + 1) (stC { x with p := l } (.slice A4' nl c4') C D) _ rfl rfl 24 stT R5 rfl rfl hone ?_)
        | fail)
      refine bodyPost_ret (result_rec rfl rfl rfl stT hF rfl) rfl ?_
      rw [HY2.out]
      refine ⟨_, C, D, rfl, ⟨?_, .inl ⟨rfl, rfl, rfl, rfl⟩⟩, hFB⟩
      have := HNL.out
      subst this
      exact own_mono hoF (by have := B3.size; omega)
    · have HY2 : Hid (Y = (zeroS, le)) := Lib.hid (by rw [HY4.out]; simp [withS, hle])
      refine (HWN.out hle _ G4).mono ?_; rintro e w5 ⟨rfl, hb5⟩
      have G5 := btr G4 hb5
      have B5 := btr B4 hb5
      clear hle
      have hF := (HR.out.below G5).putAll (stC zeroS (.slice none 0 0) (.slice none 0 0) (.slice none 0 0)) rfl
      have hFB := below_setCells (Nat.le_succ w.heap.size) (stC zeroS (.slice none 0 0) (.slice none 0 0) (.slice none 0 0)) 0 _ (B5)
      go_wp2_with (first
        | (refine wpList_store_rec rfl _ _ _ rfl (w.heap.size + 1) (stC zeroS (.slice none 0 0) (.slice none 0 0) (.slice none 0 0)) _ rfl rfl 24 stT (HR.out.below G5) rfl rfl zero_one ?_)
        | fail)
      try rw [Exit.noGoto_ret]
      refine bodyPost_ret (result_rec rfl rfl rfl stT hF rfl) rfl ?_
      rw [HY2.out]
      exact ⟨_, _, _, rfl, RefOut.zero, hFB⟩
set_option maxRecDepth 100000 in
set_option maxHeartbeats 4000000 in
theorem rMoveS_any (x : St) (P C D : Value) (u v : Int) (d : Bool) (Y : St × Int) (w : World) (h : StAt w x P C D) (hf : stFew x) (hY : toS (fun a b => startL x.p a b) x u v d = Y) : Calls Try.prog 23 #[.agg (stC x P C D).toArray, .int .i64 u, .int .i64 v, .bool d] w
    fun r w' => ∃ P' C' D', r = .returned (.tuple #[.agg (stC Y.1 P' C' D').toArray, .int .i64 Y.2]) ∧ RefOut w' w.heap.size x Y.1 P' C' D' C D ∧ Below w.heap.size w w' := by
  have HS := Lib.hid h
  obtain ⟨w0, hw0⟩ : ∃ w0 : World, w0 = (w.alloc (.cells (stC x P C D).toArray 34)).alloc (.cells (stC zeroS (.slice none 0 0) (.slice none 0 0) (.slice none 0 0)).toArray 34) := ⟨_, rfl⟩
  have hB0 : Below w.heap.size w w0 := by rw [hw0]; exact bal (bal (Below.refl _ _) _) _
  have hA : BC w0 w.heap.size (stC x P C D) := by rw [hw0]; exact (BC.new (stC x P C D) 34 rfl).below (bal (Below.refl _ _) _)
  have hR : BC w0 (w.heap.size + 1) (stC zeroS (.slice none 0 0) (.slice none 0 0) (.slice none 0 0)) := by rw [hw0]; exact BC.new (w := w.alloc (.cells (stC x P C D).toArray 34)) _ 34 (by simp)
  have hgA := hA.lt
  have hgR := hR.lt
  have h0 := h.below hB0
  rw [zero_lit] at hw0
  obtain ⟨Ap, cp, rfl, hp, hpc, hpm⟩ := h0.p
  obtain ⟨np, hnp⟩ : ∃ n, n = x.p.length := ⟨_, rfl⟩
  rw [← hnp] at hw0 hA hp hpc h h0 HS ⊢
  have HY := Lib.hid hY
  have HM := Lib.hid fun W (hb : Below w0.heap.size w0 W) => rStMay_any x (.slice Ap np cp) C D W (h0.below hb) hf
  have H0 := Lib.hid h0
  have HP := Lib.hid hp
  have HA := Lib.hid hA
  have HR := Lib.hid hR
  have hnp3 : np ≤ 1000 := by rw [hnp]; exact hf.1
  have HFEW := Lib.hid hf
  clear hY h0 h hp hA hR hnp hf
  go_enter Try.func23, Try.ntmps23
  go_upto_region 1 with (fail)
  rw [← hw0]
  clear hw0
  go_wp2_with (first
    | (refine wpList_load_rec rfl _ _ rfl w.heap.size rfl _ 24 stT HA.out rfl ?_)
    | fail)
  refine (HM.out _ (Below.refl _ _)).mono ?_; rintro e w1 ⟨rfl, hb1⟩
  have G1 := hb1
  have B1 := btr hB0 G1
  clear hb1
  cases hm : mayS x
  · have HY2 : Hid (Y = (zeroS, 1)) := Lib.hid (by rw [← HY.out]; unfold toS; rw [hm]; simp)
    have hF := (HR.out.below G1).putAll (stC zeroS (.slice none 0 0) (.slice none 0 0) (.slice none 0 0)) rfl
    have hFB := below_setCells (Nat.le_succ w.heap.size) (stC zeroS (.slice none 0 0) (.slice none 0 0) (.slice none 0 0)) 0 _ (B1)
    go_wp2_with (first
      | (refine wpList_store_rec rfl _ _ _ rfl (w.heap.size + 1) (stC zeroS (.slice none 0 0) (.slice none 0 0) (.slice none 0 0)) _ rfl rfl 24 stT (HR.out.below G1) rfl rfl zero_one ?_)
      | fail)
    try rw [Exit.noGoto_ret]
    refine bodyPost_ret (result_rec rfl rfl rfl stT hF rfl) rfl ?_
    rw [HY2.out]
    exact ⟨_, _, _, rfl, RefOut.zero, hFB⟩
  · go_wp2_with fail
    refine (rFixes_any _ 2 _ [u, v] _ (by omega) (sl_new (w := w1) (t := 3) (ints [u, v]) rfl rfl)).mono ?_; rintro e w' ⟨rfl, rfl⟩
    have G2 := bal G1 (.cells (ints [u, v]).toArray 3)
    have B2 := bal B1 (.cells (ints [u, v]).toArray 3)
    obtain ⟨w2, hw2⟩ : ∃ w2, w2 = w1.alloc (.cells (ints [u, v]).toArray 3) := ⟨_, rfl⟩
    rw [← hw2] at G2 B2 ⊢
    clear hw2
    cases hfx : [u, v].all fixB
    · have HY2 : Hid (Y = (zeroS, 1)) := Lib.hid (by rw [← HY.out]; unfold toS; rw [hm, hfx]; simp)
      have hF := (HR.out.below G2).putAll (stC zeroS (.slice none 0 0) (.slice none 0 0) (.slice none 0 0)) rfl
      have hFB := below_setCells (Nat.le_succ w.heap.size) (stC zeroS (.slice none 0 0) (.slice none 0 0) (.slice none 0 0)) 0 _ (B2)
      go_wp2_with (first
        | (refine wpList_store_rec rfl _ _ _ rfl (w.heap.size + 1) (stC zeroS (.slice none 0 0) (.slice none 0 0) (.slice none 0 0)) _ rfl rfl 24 stT (HR.out.below G2) rfl rfl zero_one ?_)
        | fail)
      try rw [Exit.noGoto_ret]
      refine bodyPost_ret (result_rec rfl rfl rfl stT hF rfl) rfl ?_
      rw [HY2.out]
      exact ⟨_, _, _, rfl, RefOut.zero, hFB⟩
    · obtain ⟨⟨px, py, pe⟩, hpt⟩ : ∃ p, pointS x.m x.p u v d = p := ⟨_, rfl⟩
      have HPt := Lib.hid fun W (hb : Below w0.heap.size w0 W) => rPointS_any x (.slice Ap np cp) C D u v d W (H0.out.below hb) HFEW.out
      rw [hpt] at HPt
      unfold vP at HPt
      simp only at HPt
      have HY3 : Hid (Y = if pe ≠ 0 then (zeroS, pe) else withS x ((fun a b => startL x.p a b) px py)) := Lib.hid (by rw [← HY.out]; unfold toS withS; rw [hm, hfx, hpt]; simp)
      clear hpt HY hfx hm
      have A2 := HA.out.below G2
      go_wp2_with (first
        | (refine wpList_load_rec rfl _ _ rfl w.heap.size rfl _ 24 stT A2 rfl ?_)
        | fail)
      refine (HPt.out _ G2).mono ?_; rintro e w3 ⟨rfl, hb3⟩
      have G3 := btr G2 hb3
      have B3 := btr B2 hb3
      clear hb3 A2 HPt
      by_cases hpe : pe = 0
      · subst hpe
        obtain ⟨E, hE⟩ : ∃ E, (fun a b => startL x.p a b) px py = E := ⟨_, rfl⟩
        have HY4 : Hid (Y = withS x E) := Lib.hid (by rw [HY3.out, ← hE]; simp)
        have hlen : E.1.length ≤ 300 := by rw [← hE]; exact startL_le _ _ _
        have HE := Lib.hid hE
        have c6 := (HA.out.below G3).c 6 _ rfl
        clear hE HY3
        go_wp2_with fail
        refine (ref_Start_any Ap np cp px py x.p E _ (by omega) hpc (HP.out.below G3) HE.out).mono ?_; rintro e w4 ⟨A4', c4', rfl, ho4, hb4⟩
        have G4 := btr G3 hb4
        have B4 := btr B3 hb4
        have A4 := HA.out.below G4
        have hz3 : w0.heap.size ≤ w3.heap.size := G3.size
        obtain ⟨l, le⟩ := E
        simp only at hlen HY4 ho4 ⊢
        obtain ⟨nl, hnl⟩ : ∃ n, n = l.length := ⟨_, rfl⟩
        rw [← hnl] at hlen ⊢
        have HNL := Lib.hid hnl
        have HO4 := Lib.hid ho4
        have HWN := Lib.hid fun (he : le ≠ 0) W (hb : Below w0.heap.size w0 W) => rWith_no x (.slice Ap np cp) C D A4' nl c4' le W (H0.out.below hb) he
        have HWO := Lib.hid fun W (hb : Below w4.heap.size w4 W) => rWith_ok x (.slice Ap np cp) C D A4' nl c4' l W (H0.out.below (btr G4 hb))
        clear c6 hb4 hnl ho4
        go_wp2_with (first
          | (refine wpList_load_rec rfl _ _ rfl w.heap.size rfl _ 24 stT A4 rfl ?_)
          | fail)
        by_cases hle : le = 0
        · subst hle
          have HY2 : Hid (Y = ({ x with p := l }, 0)) := Lib.hid (by rw [HY4.out]; simp [withS])
          refine (HWO.out _ (Below.refl _ _)).mono ?_; rintro e w5 ⟨rfl, hb5⟩
          have G5 := btr G4 hb5
          have B5 := btr B4 hb5
          have R5 := HR.out.below G5
          have hone : ∀ v ∈ stC { x with p := l } (.slice A4' nl c4') C D, v.oneCell' = true := by
            obtain ⟨-, ⟨_, _, rfl, _⟩, ⟨_, _, rfl, _⟩⟩ := H0.out
            exact stC_one rfl rfl rfl
          have hF := R5.putAll (stC { x with p := l } (.slice A4' nl c4') C D) rfl
          have hFB := below_setCells (Nat.le_succ w.heap.size) (stC { x with p := l } (.slice A4' nl c4') C D) 0 _ B5
          have hoF := own_setCells (show w.heap.size + 1 < w3.heap.size by omega) (stC { x with p := l } (.slice A4' nl c4') C D) 0 _ (own_below HO4.out hb5)
          go_wp2_with (first
            | (refine wpList_store_rec rfl _ _ _ rfl (w.heap.size + 1) (stC { x with p := l } (.slice A4' nl c4') C D) _ rfl rfl 24 stT R5 rfl rfl hone ?_)
            | fail)
          refine bodyPost_ret (result_rec rfl rfl rfl stT hF rfl) rfl ?_
          rw [HY2.out]
          refine ⟨_, C, D, rfl, ⟨?_, .inl ⟨rfl, rfl, rfl, rfl⟩⟩, hFB⟩
          have := HNL.out
          subst this
          exact own_mono hoF (by have := B3.size; omega)
        · have HY2 : Hid (Y = (zeroS, le)) := Lib.hid (by rw [HY4.out]; simp [withS, hle])
          refine (HWN.out hle _ G4).mono ?_; rintro e w5 ⟨rfl, hb5⟩
          have G5 := btr G4 hb5
          have B5 := btr B4 hb5
          clear hle
          have hF := (HR.out.below G5).putAll (stC zeroS (.slice none 0 0) (.slice none 0 0) (.slice none 0 0)) rfl
          have hFB := below_setCells (Nat.le_succ w.heap.size) (stC zeroS (.slice none 0 0) (.slice none 0 0) (.slice none 0 0)) 0 _ (B5)
          go_wp2_with (first
            | (refine wpList_store_rec rfl _ _ _ rfl (w.heap.size + 1) (stC zeroS (.slice none 0 0) (.slice none 0 0) (.slice none 0 0)) _ rfl rfl 24 stT (HR.out.below G5) rfl rfl zero_one ?_)
            | fail)
          try rw [Exit.noGoto_ret]
          refine bodyPost_ret (result_rec rfl rfl rfl stT hF rfl) rfl ?_
          rw [HY2.out]
          exact ⟨_, _, _, rfl, RefOut.zero, hFB⟩
      · have HY2 : Hid (Y = (zeroS, pe)) := Lib.hid (by rw [HY3.out]; simp [hpe])
        have he0 : (pe == 0) = false := by simp [hpe]
        have hF := (HR.out.below G3).putAll (stC zeroS (.slice none 0 0) (.slice none 0 0) (.slice none 0 0)) rfl
        have hFB := below_setCells (Nat.le_succ w.heap.size) (stC zeroS (.slice none 0 0) (.slice none 0 0) (.slice none 0 0)) 0 _ (B3)
        go_wp2_with (first
          | (refine wpList_store_rec rfl _ _ _ rfl (w.heap.size + 1) (stC zeroS (.slice none 0 0) (.slice none 0 0) (.slice none 0 0)) _ rfl rfl 24 stT (HR.out.below G3) rfl rfl zero_one ?_)
          | fail)
        try rw [Exit.noGoto_ret]
        refine bodyPost_ret (result_rec rfl rfl rfl stT hF rfl) rfl ?_
        rw [HY2.out]
        exact ⟨_, _, _, rfl, RefOut.zero, hFB⟩
set_option maxRecDepth 100000 in
set_option maxHeartbeats 4000000 in
theorem rLineS_any (x : St) (P C D : Value) (u v : Int) (d : Bool) (Y : St × Int) (w : World) (h : StAt w x P C D) (hf : stFew x) (hY : toS (fun a b => onL x.p ⟨2, a, b, 0, 0⟩) x u v d = Y) : Calls Try.prog 24 #[.agg (stC x P C D).toArray, .int .i64 u, .int .i64 v, .bool d] w
    fun r w' => ∃ P' C' D', r = .returned (.tuple #[.agg (stC Y.1 P' C' D').toArray, .int .i64 Y.2]) ∧ RefOut w' w.heap.size x Y.1 P' C' D' C D ∧ Below w.heap.size w w' := by
  have HS := Lib.hid h
  obtain ⟨w0, hw0⟩ : ∃ w0 : World, w0 = (w.alloc (.cells (stC x P C D).toArray 34)).alloc (.cells (stC zeroS (.slice none 0 0) (.slice none 0 0) (.slice none 0 0)).toArray 34) := ⟨_, rfl⟩
  have hB0 : Below w.heap.size w w0 := by rw [hw0]; exact bal (bal (Below.refl _ _) _) _
  have hA : BC w0 w.heap.size (stC x P C D) := by rw [hw0]; exact (BC.new (stC x P C D) 34 rfl).below (bal (Below.refl _ _) _)
  have hR : BC w0 (w.heap.size + 1) (stC zeroS (.slice none 0 0) (.slice none 0 0) (.slice none 0 0)) := by rw [hw0]; exact BC.new (w := w.alloc (.cells (stC x P C D).toArray 34)) _ 34 (by simp)
  have hgA := hA.lt
  have hgR := hR.lt
  have h0 := h.below hB0
  rw [zero_lit] at hw0
  obtain ⟨Ap, cp, rfl, hp, hpc, hpm⟩ := h0.p
  obtain ⟨np, hnp⟩ : ∃ n, n = x.p.length := ⟨_, rfl⟩
  rw [← hnp] at hw0 hA hp hpc h h0 HS ⊢
  have HY := Lib.hid hY
  have HM := Lib.hid fun W (hb : Below w0.heap.size w0 W) => rStMay_any x (.slice Ap np cp) C D W (h0.below hb) hf
  have H0 := Lib.hid h0
  have HP := Lib.hid hp
  have HA := Lib.hid hA
  have HR := Lib.hid hR
  have hnp3 : np ≤ 1000 := by rw [hnp]; exact hf.1
  have HFEW := Lib.hid hf
  clear hY h0 h hp hA hR hnp hf
  go_enter Try.func24, Try.ntmps24
  go_upto_region 1 with (fail)
  rw [← hw0]
  clear hw0
  go_wp2_with (first
    | (refine wpList_load_rec rfl _ _ rfl w.heap.size rfl _ 24 stT HA.out rfl ?_)
    | fail)
  refine (HM.out _ (Below.refl _ _)).mono ?_; rintro e w1 ⟨rfl, hb1⟩
  have G1 := hb1
  have B1 := btr hB0 G1
  clear hb1
  cases hm : mayS x
  · have HY2 : Hid (Y = (zeroS, 1)) := Lib.hid (by rw [← HY.out]; unfold toS; rw [hm]; simp)
    have hF := (HR.out.below G1).putAll (stC zeroS (.slice none 0 0) (.slice none 0 0) (.slice none 0 0)) rfl
    have hFB := below_setCells (Nat.le_succ w.heap.size) (stC zeroS (.slice none 0 0) (.slice none 0 0) (.slice none 0 0)) 0 _ (B1)
    go_wp2_with (first
      | (refine wpList_store_rec rfl _ _ _ rfl (w.heap.size + 1) (stC zeroS (.slice none 0 0) (.slice none 0 0) (.slice none 0 0)) _ rfl rfl 24 stT (HR.out.below G1) rfl rfl zero_one ?_)
      | fail)
    try rw [Exit.noGoto_ret]
    refine bodyPost_ret (result_rec rfl rfl rfl stT hF rfl) rfl ?_
    rw [HY2.out]
    exact ⟨_, _, _, rfl, RefOut.zero, hFB⟩
  · go_wp2_with fail
    refine (rFixes_any _ 2 _ [u, v] _ (by omega) (sl_new (w := w1) (t := 3) (ints [u, v]) rfl rfl)).mono ?_; rintro e w' ⟨rfl, rfl⟩
    have G2 := bal G1 (.cells (ints [u, v]).toArray 3)
    have B2 := bal B1 (.cells (ints [u, v]).toArray 3)
    obtain ⟨w2, hw2⟩ : ∃ w2, w2 = w1.alloc (.cells (ints [u, v]).toArray 3) := ⟨_, rfl⟩
    rw [← hw2] at G2 B2 ⊢
    clear hw2
    cases hfx : [u, v].all fixB
    · have HY2 : Hid (Y = (zeroS, 1)) := Lib.hid (by rw [← HY.out]; unfold toS; rw [hm, hfx]; simp)
      have hF := (HR.out.below G2).putAll (stC zeroS (.slice none 0 0) (.slice none 0 0) (.slice none 0 0)) rfl
      have hFB := below_setCells (Nat.le_succ w.heap.size) (stC zeroS (.slice none 0 0) (.slice none 0 0) (.slice none 0 0)) 0 _ (B2)
      go_wp2_with (first
        | (refine wpList_store_rec rfl _ _ _ rfl (w.heap.size + 1) (stC zeroS (.slice none 0 0) (.slice none 0 0) (.slice none 0 0)) _ rfl rfl 24 stT (HR.out.below G2) rfl rfl zero_one ?_)
        | fail)
      try rw [Exit.noGoto_ret]
      refine bodyPost_ret (result_rec rfl rfl rfl stT hF rfl) rfl ?_
      rw [HY2.out]
      exact ⟨_, _, _, rfl, RefOut.zero, hFB⟩
    · obtain ⟨⟨px, py, pe⟩, hpt⟩ : ∃ p, pointS x.m x.p u v d = p := ⟨_, rfl⟩
      have HPt := Lib.hid fun W (hb : Below w0.heap.size w0 W) => rPointS_any x (.slice Ap np cp) C D u v d W (H0.out.below hb) HFEW.out
      rw [hpt] at HPt
      unfold vP at HPt
      simp only at HPt
      have HY3 : Hid (Y = if pe ≠ 0 then (zeroS, pe) else withS x ((fun a b => onL x.p ⟨2, a, b, 0, 0⟩) px py)) := Lib.hid (by rw [← HY.out]; unfold toS withS; rw [hm, hfx, hpt]; simp)
      clear hpt HY hfx hm
      have A2 := HA.out.below G2
      go_wp2_with (first
        | (refine wpList_load_rec rfl _ _ rfl w.heap.size rfl _ 24 stT A2 rfl ?_)
        | fail)
      refine (HPt.out _ G2).mono ?_; rintro e w3 ⟨rfl, hb3⟩
      have G3 := btr G2 hb3
      have B3 := btr B2 hb3
      clear hb3 A2 HPt
      by_cases hpe : pe = 0
      · subst hpe
        obtain ⟨E, hE⟩ : ∃ E, (fun a b => onL x.p ⟨2, a, b, 0, 0⟩) px py = E := ⟨_, rfl⟩
        have HY4 : Hid (Y = withS x E) := Lib.hid (by rw [HY3.out, ← hE]; simp)
        have hlen : E.1.length ≤ 300 := by rw [← hE]; exact onL_le _ _
        have HE := Lib.hid hE
        have c6 := (HA.out.below G3).c 6 _ rfl
        clear hE HY3
        go_wp2_with fail
        refine (ref_Add_any Ap np cp x.p ⟨2, px, py, 0, 0⟩ E _ (by omega) (HP.out.below G3) HE.out).mono ?_; rintro e w4 ⟨A4', c4', rfl, ho4, hb4⟩
        have G4 := btr G3 hb4
        have B4 := btr B3 hb4
        have A4 := HA.out.below G4
        have hz3 : w0.heap.size ≤ w3.heap.size := G3.size
        obtain ⟨l, le⟩ := E
        simp only at hlen HY4 ho4 ⊢
        obtain ⟨nl, hnl⟩ : ∃ n, n = l.length := ⟨_, rfl⟩
        rw [← hnl] at hlen ⊢
        have HNL := Lib.hid hnl
        have HO4 := Lib.hid ho4
        have HWN := Lib.hid fun (he : le ≠ 0) W (hb : Below w0.heap.size w0 W) => rWith_no x (.slice Ap np cp) C D A4' nl c4' le W (H0.out.below hb) he
        have HWO := Lib.hid fun W (hb : Below w4.heap.size w4 W) => rWith_ok x (.slice Ap np cp) C D A4' nl c4' l W (H0.out.below (btr G4 hb))
        clear c6 hb4 hnl ho4
        go_wp2_with (first
          | (refine wpList_load_rec rfl _ _ rfl w.heap.size rfl _ 24 stT A4 rfl ?_)
          | fail)
        by_cases hle : le = 0
        · subst hle
          have HY2 : Hid (Y = ({ x with p := l }, 0)) := Lib.hid (by rw [HY4.out]; simp [withS])
          refine (HWO.out _ (Below.refl _ _)).mono ?_; rintro e w5 ⟨rfl, hb5⟩
          have G5 := btr G4 hb5
          have B5 := btr B4 hb5
          have R5 := HR.out.below G5
          have hone : ∀ v ∈ stC { x with p := l } (.slice A4' nl c4') C D, v.oneCell' = true := by
            obtain ⟨-, ⟨_, _, rfl, _⟩, ⟨_, _, rfl, _⟩⟩ := H0.out
            exact stC_one rfl rfl rfl
          have hF := R5.putAll (stC { x with p := l } (.slice A4' nl c4') C D) rfl
          have hFB := below_setCells (Nat.le_succ w.heap.size) (stC { x with p := l } (.slice A4' nl c4') C D) 0 _ B5
          have hoF := own_setCells (show w.heap.size + 1 < w3.heap.size by omega) (stC { x with p := l } (.slice A4' nl c4') C D) 0 _ (own_below HO4.out hb5)
          go_wp2_with (first
            | (refine wpList_store_rec rfl _ _ _ rfl (w.heap.size + 1) (stC { x with p := l } (.slice A4' nl c4') C D) _ rfl rfl 24 stT R5 rfl rfl hone ?_)
            | fail)
          refine bodyPost_ret (result_rec rfl rfl rfl stT hF rfl) rfl ?_
          rw [HY2.out]
          refine ⟨_, C, D, rfl, ⟨?_, .inl ⟨rfl, rfl, rfl, rfl⟩⟩, hFB⟩
          have := HNL.out
          subst this
          exact own_mono hoF (by have := B3.size; omega)
        · have HY2 : Hid (Y = (zeroS, le)) := Lib.hid (by rw [HY4.out]; simp [withS, hle])
          refine (HWN.out hle _ G4).mono ?_; rintro e w5 ⟨rfl, hb5⟩
          have G5 := btr G4 hb5
          have B5 := btr B4 hb5
          clear hle
          have hF := (HR.out.below G5).putAll (stC zeroS (.slice none 0 0) (.slice none 0 0) (.slice none 0 0)) rfl
          have hFB := below_setCells (Nat.le_succ w.heap.size) (stC zeroS (.slice none 0 0) (.slice none 0 0) (.slice none 0 0)) 0 _ (B5)
          go_wp2_with (first
            | (refine wpList_store_rec rfl _ _ _ rfl (w.heap.size + 1) (stC zeroS (.slice none 0 0) (.slice none 0 0) (.slice none 0 0)) _ rfl rfl 24 stT (HR.out.below G5) rfl rfl zero_one ?_)
            | fail)
          try rw [Exit.noGoto_ret]
          refine bodyPost_ret (result_rec rfl rfl rfl stT hF rfl) rfl ?_
          rw [HY2.out]
          exact ⟨_, _, _, rfl, RefOut.zero, hFB⟩
      · have HY2 : Hid (Y = (zeroS, pe)) := Lib.hid (by rw [HY3.out]; simp [hpe])
        have he0 : (pe == 0) = false := by simp [hpe]
        have hF := (HR.out.below G3).putAll (stC zeroS (.slice none 0 0) (.slice none 0 0) (.slice none 0 0)) rfl
        have hFB := below_setCells (Nat.le_succ w.heap.size) (stC zeroS (.slice none 0 0) (.slice none 0 0) (.slice none 0 0)) 0 _ (B3)
        go_wp2_with (first
          | (refine wpList_store_rec rfl _ _ _ rfl (w.heap.size + 1) (stC zeroS (.slice none 0 0) (.slice none 0 0) (.slice none 0 0)) _ rfl rfl 24 stT (HR.out.below G3) rfl rfl zero_one ?_)
          | fail)
        try rw [Exit.noGoto_ret]
        refine bodyPost_ret (result_rec rfl rfl rfl stT hF rfl) rfl ?_
        rw [HY2.out]
        exact ⟨_, _, _, rfl, RefOut.zero, hFB⟩
set_option maxRecDepth 100000 in
set_option maxHeartbeats 4000000 in
theorem rBowS_any (x : St) (P C D : Value) (cu cv u v : Int) (d : Bool) (Y : St × Int) (w : World) (h : StAt w x P C D) (hf : stFew x) (hY : bowS x cu cv u v d = Y) : Calls Try.prog 26 #[.agg (stC x P C D).toArray, .int .i64 cu, .int .i64 cv, .int .i64 u, .int .i64 v, .bool d] w
    fun r w' => ∃ P' C' D', r = .returned (.tuple #[.agg (stC Y.1 P' C' D').toArray, .int .i64 Y.2]) ∧ RefOut w' w.heap.size x Y.1 P' C' D' C D ∧ Below w.heap.size w w' := by
  have HS := Lib.hid h
  obtain ⟨w0, hw0⟩ : ∃ w0 : World, w0 = (w.alloc (.cells (stC x P C D).toArray 34)).alloc (.cells (stC zeroS (.slice none 0 0) (.slice none 0 0) (.slice none 0 0)).toArray 34) := ⟨_, rfl⟩
  have hB0 : Below w.heap.size w w0 := by rw [hw0]; exact bal (bal (Below.refl _ _) _) _
  have hA : BC w0 w.heap.size (stC x P C D) := by rw [hw0]; exact (BC.new (stC x P C D) 34 rfl).below (bal (Below.refl _ _) _)
  have hR : BC w0 (w.heap.size + 1) (stC zeroS (.slice none 0 0) (.slice none 0 0) (.slice none 0 0)) := by rw [hw0]; exact BC.new (w := w.alloc (.cells (stC x P C D).toArray 34)) _ 34 (by simp)
  have hgA := hA.lt
  have hgR := hR.lt
  have h0 := h.below hB0
  rw [zero_lit] at hw0
  obtain ⟨Ap, cp, rfl, hp, hpc, hpm⟩ := h0.p
  obtain ⟨np, hnp⟩ : ∃ n, n = x.p.length := ⟨_, rfl⟩
  rw [← hnp] at hw0 hA hp hpc h h0 HS ⊢
  have HY := Lib.hid hY
  have HM := Lib.hid fun W (hb : Below w0.heap.size w0 W) => rStMay_any x (.slice Ap np cp) C D W (h0.below hb) hf
  have H0 := Lib.hid h0
  have HP := Lib.hid hp
  have HA := Lib.hid hA
  have HR := Lib.hid hR
  have hnp3 : np ≤ 1000 := by rw [hnp]; exact hf.1
  have HFEW := Lib.hid hf
  clear hY h0 h hp hA hR hnp hf
  go_enter Try.func26, Try.ntmps26
  go_upto_region 1 with (fail)
  rw [← hw0]
  clear hw0
  go_wp2_with (first
    | (refine wpList_load_rec rfl _ _ rfl w.heap.size rfl _ 24 stT HA.out rfl ?_)
    | fail)
  refine (HM.out _ (Below.refl _ _)).mono ?_; rintro e w1 ⟨rfl, hb1⟩
  have G1 := hb1
  have B1 := btr hB0 G1
  clear hb1
  cases hm : mayS x
  · have HY2 : Hid (Y = (zeroS, 1)) := Lib.hid (by rw [← HY.out]; unfold bowS; rw [hm]; simp)
    have hF := (HR.out.below G1).putAll (stC zeroS (.slice none 0 0) (.slice none 0 0) (.slice none 0 0)) rfl
    have hFB := below_setCells (Nat.le_succ w.heap.size) (stC zeroS (.slice none 0 0) (.slice none 0 0) (.slice none 0 0)) 0 _ (B1)
    go_wp2_with (first
      | (refine wpList_store_rec rfl _ _ _ rfl (w.heap.size + 1) (stC zeroS (.slice none 0 0) (.slice none 0 0) (.slice none 0 0)) _ rfl rfl 24 stT (HR.out.below G1) rfl rfl zero_one ?_)
      | fail)
    try rw [Exit.noGoto_ret]
    refine bodyPost_ret (result_rec rfl rfl rfl stT hF rfl) rfl ?_
    rw [HY2.out]
    exact ⟨_, _, _, rfl, RefOut.zero, hFB⟩
  · go_wp2_with fail
    refine (rFixes_any _ 4 _ [cu, cv, u, v] _ (by omega) (sl_new (w := w1) (t := 3) (ints [cu, cv, u, v]) rfl rfl)).mono ?_; rintro e w' ⟨rfl, rfl⟩
    have G2 := bal G1 (.cells (ints [cu, cv, u, v]).toArray 3)
    have B2 := bal B1 (.cells (ints [cu, cv, u, v]).toArray 3)
    obtain ⟨w2, hw2⟩ : ∃ w2, w2 = w1.alloc (.cells (ints [cu, cv, u, v]).toArray 3) := ⟨_, rfl⟩
    rw [← hw2] at G2 B2 ⊢
    clear hw2
    cases hfx : [cu, cv, u, v].all fixB
    · have HY2 : Hid (Y = (zeroS, 1)) := Lib.hid (by rw [← HY.out]; unfold bowS; rw [hm, hfx]; simp)
      have hF := (HR.out.below G2).putAll (stC zeroS (.slice none 0 0) (.slice none 0 0) (.slice none 0 0)) rfl
      have hFB := below_setCells (Nat.le_succ w.heap.size) (stC zeroS (.slice none 0 0) (.slice none 0 0) (.slice none 0 0)) 0 _ (B2)
      go_wp2_with (first
        | (refine wpList_store_rec rfl _ _ _ rfl (w.heap.size + 1) (stC zeroS (.slice none 0 0) (.slice none 0 0) (.slice none 0 0)) _ rfl rfl 24 stT (HR.out.below G2) rfl rfl zero_one ?_)
        | fail)
      try rw [Exit.noGoto_ret]
      refine bodyPost_ret (result_rec rfl rfl rfl stT hF rfl) rfl ?_
      rw [HY2.out]
      exact ⟨_, _, _, rfl, RefOut.zero, hFB⟩
    · obtain ⟨⟨qx, qy, qe⟩, hqt⟩ : ∃ p, pointS x.m x.p cu cv d = p := ⟨_, rfl⟩
      obtain ⟨⟨px, py, pe⟩, hpt⟩ : ∃ p, pointS x.m x.p u v d = p := ⟨_, rfl⟩
      have HQt := Lib.hid fun W (hb : Below w0.heap.size w0 W) => rPointS_any x (.slice Ap np cp) C D cu cv d W (H0.out.below hb) HFEW.out
      have HPt := Lib.hid fun W (hb : Below w0.heap.size w0 W) => rPointS_any x (.slice Ap np cp) C D u v d W (H0.out.below hb) HFEW.out
      rw [hpt] at HPt
      rw [hqt] at HQt
      unfold vP at HPt HQt
      simp only at HPt HQt
      have HY3 : Hid (Y = if qe ≠ 0 then (zeroS, qe) else if pe ≠ 0 then (zeroS, pe) else withS x (onL x.p ⟨3, px, py, qx, qy⟩)) := Lib.hid (by rw [← HY.out]; unfold bowS; rw [hm, hfx, hpt, hqt]; simp)
      clear hpt hqt HY hfx hm
      have A2 := HA.out.below G2
      go_wp2_with (first
        | (refine wpList_load_rec rfl _ _ rfl w.heap.size rfl _ 24 stT A2 rfl ?_)
        | fail)
      refine (HQt.out _ G2).mono ?_; rintro e w3' ⟨rfl, hb3⟩
      have G3' := btr G2 hb3
      have B3' := btr B2 hb3
      have A3 := HA.out.below G3'
      clear hb3 A2 HQt
      by_cases hqe : qe = 0
      · subst hqe
        go_wp2_with (first
          | (refine wpList_load_rec rfl _ _ rfl w.heap.size rfl _ 24 stT A3 rfl ?_)
          | fail)
        refine (HPt.out _ G3').mono ?_; rintro e w3 ⟨rfl, hb3⟩
        have G3 := btr G3' hb3
        have B3 := btr B3' hb3
        clear hb3 A3 HPt
        by_cases hpe : pe = 0
        · subst hpe
          obtain ⟨E, hE⟩ : ∃ E, onL x.p ⟨3, px, py, qx, qy⟩ = E := ⟨_, rfl⟩
          have HY4 : Hid (Y = withS x E) := Lib.hid (by rw [HY3.out, hE]; simp)
          have hlen : E.1.length ≤ 300 := by rw [← hE]; exact onL_le _ _
          have HE := Lib.hid hE
          have c6 := (HA.out.below G3).c 6 _ rfl
          clear hE HY3
          go_wp2_with fail
          refine (ref_Add_any Ap np cp x.p ⟨3, px, py, qx, qy⟩ E _ (by omega) (HP.out.below G3) HE.out).mono ?_; rintro e w4 ⟨A4', c4', rfl, ho4, hb4⟩
          have G4 := btr G3 hb4
          have B4 := btr B3 hb4
          have A4 := HA.out.below G4
          have hz3 : w0.heap.size ≤ w3.heap.size := G3.size
          obtain ⟨l, le⟩ := E
          simp only at hlen HY4 ho4 ⊢
          obtain ⟨nl, hnl⟩ : ∃ n, n = l.length := ⟨_, rfl⟩
          rw [← hnl] at hlen ⊢
          have HNL := Lib.hid hnl
          have HO4 := Lib.hid ho4
          have HWN := Lib.hid fun (he : le ≠ 0) W (hb : Below w0.heap.size w0 W) => rWith_no x (.slice Ap np cp) C D A4' nl c4' le W (H0.out.below hb) he
          have HWO := Lib.hid fun W (hb : Below w4.heap.size w4 W) => rWith_ok x (.slice Ap np cp) C D A4' nl c4' l W (H0.out.below (btr G4 hb))
          clear c6 hb4 hnl ho4
          go_wp2_with (first
            | (refine wpList_load_rec rfl _ _ rfl w.heap.size rfl _ 24 stT A4 rfl ?_)
            | fail)
          by_cases hle : le = 0
          · subst hle
            have HY2 : Hid (Y = ({ x with p := l }, 0)) := Lib.hid (by rw [HY4.out]; simp [withS])
            refine (HWO.out _ (Below.refl _ _)).mono ?_; rintro e w5 ⟨rfl, hb5⟩
            have G5 := btr G4 hb5
            have B5 := btr B4 hb5
            have R5 := HR.out.below G5
            have hone : ∀ v ∈ stC { x with p := l } (.slice A4' nl c4') C D, v.oneCell' = true := by
              obtain ⟨-, ⟨_, _, rfl, _⟩, ⟨_, _, rfl, _⟩⟩ := H0.out
              exact stC_one rfl rfl rfl
            have hF := R5.putAll (stC { x with p := l } (.slice A4' nl c4') C D) rfl
            have hFB := below_setCells (Nat.le_succ w.heap.size) (stC { x with p := l } (.slice A4' nl c4') C D) 0 _ B5
            have hoF := own_setCells (show w.heap.size + 1 < w3.heap.size by omega) (stC { x with p := l } (.slice A4' nl c4') C D) 0 _ (own_below HO4.out hb5)
            go_wp2_with (first
              | (refine wpList_store_rec rfl _ _ _ rfl (w.heap.size + 1) (stC { x with p := l } (.slice A4' nl c4') C D) _ rfl rfl 24 stT R5 rfl rfl hone ?_)
              | fail)
            refine bodyPost_ret (result_rec rfl rfl rfl stT hF rfl) rfl ?_
            rw [HY2.out]
            refine ⟨_, C, D, rfl, ⟨?_, .inl ⟨rfl, rfl, rfl, rfl⟩⟩, hFB⟩
            have := HNL.out
            subst this
            exact own_mono hoF (by have := B3.size; omega)
          · have HY2 : Hid (Y = (zeroS, le)) := Lib.hid (by rw [HY4.out]; simp [withS, hle])
            refine (HWN.out hle _ G4).mono ?_; rintro e w5 ⟨rfl, hb5⟩
            have G5 := btr G4 hb5
            have B5 := btr B4 hb5
            clear hle
            have hF := (HR.out.below G5).putAll (stC zeroS (.slice none 0 0) (.slice none 0 0) (.slice none 0 0)) rfl
            have hFB := below_setCells (Nat.le_succ w.heap.size) (stC zeroS (.slice none 0 0) (.slice none 0 0) (.slice none 0 0)) 0 _ (B5)
            go_wp2_with (first
              | (refine wpList_store_rec rfl _ _ _ rfl (w.heap.size + 1) (stC zeroS (.slice none 0 0) (.slice none 0 0) (.slice none 0 0)) _ rfl rfl 24 stT (HR.out.below G5) rfl rfl zero_one ?_)
              | fail)
            try rw [Exit.noGoto_ret]
            refine bodyPost_ret (result_rec rfl rfl rfl stT hF rfl) rfl ?_
            rw [HY2.out]
            exact ⟨_, _, _, rfl, RefOut.zero, hFB⟩
        · have HY2 : Hid (Y = (zeroS, pe)) := Lib.hid (by rw [HY3.out]; simp [hpe])
          have he0 : (pe == 0) = false := by simp [hpe]
          have hF := (HR.out.below G3).putAll (stC zeroS (.slice none 0 0) (.slice none 0 0) (.slice none 0 0)) rfl
          have hFB := below_setCells (Nat.le_succ w.heap.size) (stC zeroS (.slice none 0 0) (.slice none 0 0) (.slice none 0 0)) 0 _ (B3)
          go_wp2_with (first
            | (refine wpList_store_rec rfl _ _ _ rfl (w.heap.size + 1) (stC zeroS (.slice none 0 0) (.slice none 0 0) (.slice none 0 0)) _ rfl rfl 24 stT (HR.out.below G3) rfl rfl zero_one ?_)
            | fail)
          try rw [Exit.noGoto_ret]
          refine bodyPost_ret (result_rec rfl rfl rfl stT hF rfl) rfl ?_
          rw [HY2.out]
          exact ⟨_, _, _, rfl, RefOut.zero, hFB⟩
      · have HY2 : Hid (Y = (zeroS, qe)) := Lib.hid (by rw [HY3.out]; simp [hqe])
        have he0 : (qe == 0) = false := by simp [hqe]
        clear A3
        have hF := (HR.out.below G3').putAll (stC zeroS (.slice none 0 0) (.slice none 0 0) (.slice none 0 0)) rfl
        have hFB := below_setCells (Nat.le_succ w.heap.size) (stC zeroS (.slice none 0 0) (.slice none 0 0) (.slice none 0 0)) 0 _ (B3')
        go_wp2_with (first
          | (refine wpList_store_rec rfl _ _ _ rfl (w.heap.size + 1) (stC zeroS (.slice none 0 0) (.slice none 0 0) (.slice none 0 0)) _ rfl rfl 24 stT (HR.out.below G3') rfl rfl zero_one ?_)
          | fail)
        try rw [Exit.noGoto_ret]
        refine bodyPost_ret (result_rec rfl rfl rfl stT hF rfl) rfl ?_
        rw [HY2.out]
        exact ⟨_, _, _, rfl, RefOut.zero, hFB⟩
end Go.Proofs.Ytaadajadeemndaa
