/- state.to, Move, Line. -/
import Derived.Test.YtaadajadeemndaaSt7
import Derived.Test.YtaadajadeemndaaAdd2
namespace Go.Proofs.Ytaadajadeemndaa
open Go.RowKit Go.BigFrame

/-- Through a function that goes on a path. -/
def toS (F : Int → Int → List Sg × Int) (x : St) (u v : Int) (d : Bool) : St × Int :=
  if (mayS x && [u, v].all fixB) = false then (zeroS, 1)
  else if (pointS x.m x.p u v d).2.2 ≠ 0 then (zeroS, (pointS x.m x.p u v d).2.2)
  else if (F (pointS x.m x.p u v d).1 (pointS x.m x.p u v d).2.1).2 ≠ 0 then (zeroS, (F (pointS x.m x.p u v d).1 (pointS x.m x.p u v d).2.1).2)
  else ({ x with p := (F (pointS x.m x.p u v d).1 (pointS x.m x.p u v d).2.1).1 }, 0)
/-- The length of a path that a path becomes. -/
theorem longL_le (l k : List Sg) : (longL l k).1.length ≤ 300 := by
  unfold longL
  split
  · simp
  · simp only [List.length_append]; omega
theorem startL_le (l : List Sg) (x y : Int) : (startL l x y).1.length ≤ 300 := by
  unfold startL
  split
  · simp
  · split
    · simp
    · exact longL_le _ _
theorem onL_le (l : List Sg) (s : Sg) : (onL l s).1.length ≤ 300 := by
  unfold onL
  split
  · simp
  · split
    · simp
    · split
      · simp
      · split
        · exact longL_le _ _
        · exact longL_le _ _
theorem shutL_le (l : List Sg) : (shutL l).1.length ≤ 300 := by
  unfold shutL
  split
  · simp
  · split <;> exact longL_le _ _
theorem joinL_le (l k : List Sg) : (joinL l k).1.length ≤ 300 := by
  unfold joinL
  split
  · simp
  · exact longL_le _ _

set_option maxRecDepth 100000 in
set_option maxHeartbeats 4000000 in
theorem toStart_any (x : St) (P C D : Value) (u v : Int) (d : Bool) (Y : St × Int) (w : World) (h : StAt w x P C D) (hY : toS (fun a b => startL x.p a b) x u v d = Y) : Calls Try.prog 40 #[.agg (stC x P C D).toArray, .int .i64 u, .int .i64 v, .bool d, .func (.func 41) #[] #[]] w
    fun r w' => ∃ P' C' D', r = .returned (.tuple #[.agg (stC Y.1 P' C' D').toArray, .int .i64 Y.2]) ∧ StOwn w' w.heap.size Y.1 P' C' D' ∧ Below w.heap.size w w' := by
  obtain ⟨w0, hw0⟩ : ∃ w0 : World, w0 = (w.alloc (.cells (stC x P C D).toArray 34)).alloc (.cells (stC zeroS (.slice none 0 0) (.slice none 0 0) (.slice none 0 0)).toArray 34) := ⟨_, rfl⟩
  have hB0 : Below w.heap.size w w0 := by rw [hw0]; exact bal (bal (Below.refl _ _) _) _
  have hA : BC w0 w.heap.size (stC x P C D) := by rw [hw0]; exact (BC.new (stC x P C D) 34 rfl).below (bal (Below.refl _ _) _)
  have hR : BC w0 (w.heap.size + 1) (stC zeroS (.slice none 0 0) (.slice none 0 0) (.slice none 0 0)) := by rw [hw0]; exact BC.new (w := w.alloc (.cells (stC x P C D).toArray 34)) _ 34 (by simp)
  have hgA := hA.lt
  have hgR := hR.lt
  have h0 := h.below hB0
  rw [zero_lit] at hw0
  obtain ⟨Ap, cp, rfl, hp, hpc, hpm⟩ := h0.p
  obtain ⟨np, hnp⟩ : ∃ n, n = x.p.length := ⟨_, rfl⟩
  rw [← hnp] at hw0 hA hp hpc h h0 ⊢
  have HY := Lib.hid hY
  have HM := Lib.hid fun W (hb : Below w0.heap.size w0 W) => stMay_any x (.slice Ap np cp) C D W (h0.below hb)
  have H0 := Lib.hid h0
  have HP := Lib.hid hp
  have HA := Lib.hid hA
  have HR := Lib.hid hR
  have HNP := Lib.hid hnp
  clear hY h0 h hp hA hR hnp
  go_enter Try.func40, Try.ntmps40
  go_upto_region 1 with (fail)
  rw [← hw0]
  clear hw0
  go_wp2_with (first
    | (refine wpList_load_rec rfl _ _ rfl w.heap.size rfl _ 24 stT HA.out rfl ?_)
    | fail)
  refine (HM.out _ (Below.refl _ _)).mono ?_; rintro e w1 ⟨rfl, hb1⟩
  have G1 := hb1
  have B1 := btr hB0 G1
  clear hb1
  cases hm : mayS x
  · have HY2 : Hid (Y = (zeroS, 1)) := Lib.hid (by rw [← HY.out]; unfold toS; rw [hm]; simp)
    have hF := (HR.out.below G1).putAll (stC zeroS (.slice none 0 0) (.slice none 0 0) (.slice none 0 0)) rfl
    have hFB := below_setCells (Nat.le_succ w.heap.size) (stC zeroS (.slice none 0 0) (.slice none 0 0) (.slice none 0 0)) 0 _ (B1)
    go_wp2_with (first
      | (refine wpList_load_rec rfl _ _ rfl (w.heap.size + 1) rfl _ 24 stT (HR.out.below G1) rfl ?_)
      | (refine wpList_store_rec rfl _ _ _ rfl (w.heap.size + 1) (stC zeroS (.slice none 0 0) (.slice none 0 0) (.slice none 0 0)) _ rfl rfl 24 stT (HR.out.below G1) rfl rfl zero_one ?_)
      | fail)
    refine bodyPost_ret (result_rec rfl rfl rfl stT hF rfl) rfl ?_
    rw [HY2.out]
    exact ⟨_, _, _, rfl, zero_own _ _, hFB⟩
  · have hfew := mayS_few hm
    have hnp3 : np ≤ 1000 := by rw [HNP.out]; exact hfew.1
    have HFEW := Lib.hid hfew
    clear hfew
    go_wp2_with fail
    refine (stmay_any _ 2 _ [u, v] _ (by omega) (sl_new (w := w1) (t := 3) (ints [u, v]) rfl rfl)).mono ?_; rintro e w' ⟨rfl, rfl⟩
    have G2 := bal G1 (.cells (ints [u, v]).toArray 3)
    have B2 := bal B1 (.cells (ints [u, v]).toArray 3)
    obtain ⟨w2, hw2⟩ : ∃ w2, w2 = w1.alloc (.cells (ints [u, v]).toArray 3) := ⟨_, rfl⟩
    rw [← hw2] at G2 B2 ⊢
    clear hw2
    cases hf : [u, v].all fixB
    · have HY2 : Hid (Y = (zeroS, 1)) := Lib.hid (by rw [← HY.out]; unfold toS; rw [hm, hf]; simp)
      have hF := (HR.out.below G2).putAll (stC zeroS (.slice none 0 0) (.slice none 0 0) (.slice none 0 0)) rfl
      have hFB := below_setCells (Nat.le_succ w.heap.size) (stC zeroS (.slice none 0 0) (.slice none 0 0) (.slice none 0 0)) 0 _ (B2)
      go_wp2_with (first
        | (refine wpList_load_rec rfl _ _ rfl (w.heap.size + 1) rfl _ 24 stT (HR.out.below G2) rfl ?_)
        | (refine wpList_store_rec rfl _ _ _ rfl (w.heap.size + 1) (stC zeroS (.slice none 0 0) (.slice none 0 0) (.slice none 0 0)) _ rfl rfl 24 stT (HR.out.below G2) rfl rfl zero_one ?_)
        | fail)
      refine bodyPost_ret (result_rec rfl rfl rfl stT hF rfl) rfl ?_
      rw [HY2.out]
      exact ⟨_, _, _, rfl, zero_own _ _, hFB⟩
    · obtain ⟨⟨px, py, pe⟩, hpt⟩ : ∃ p, pointS x.m x.p u v d = p := ⟨_, rfl⟩
      have HPt := Lib.hid fun W (hb : Below w0.heap.size w0 W) => point_any x (.slice Ap np cp) C D u v d W (H0.out.below hb) HFEW.out
      rw [hpt] at HPt
      unfold vP at HPt
      simp only at HPt
      have HY3 : Hid (Y = if pe ≠ 0 then (zeroS, pe) else if ((fun a b => startL x.p a b) px py).2 ≠ 0 then (zeroS, ((fun a b => startL x.p a b) px py).2) else ({ x with p := ((fun a b => startL x.p a b) px py).1 }, 0)) := Lib.hid (by rw [← HY.out]; unfold toS; rw [hm, hf, hpt]; simp)
      clear hpt HY hf hm
      have A2 := HA.out.below G2
      go_wp2_with (first
        | (refine wpList_load_rec rfl _ _ rfl w.heap.size rfl _ 24 stT A2 rfl ?_)
        | fail)
      refine (HPt.out _ G2).mono ?_; rintro e w3 ⟨rfl, hb3⟩
      have G3 := btr G2 hb3
      have B3 := btr B2 hb3
      clear hb3 A2 HPt
      by_cases hpe : pe = 0
      · subst hpe
        have HY4 : Hid (Y = if ((fun a b => startL x.p a b) px py).2 ≠ 0 then (zeroS, ((fun a b => startL x.p a b) px py).2) else ({ x with p := ((fun a b => startL x.p a b) px py).1 }, 0)) := Lib.hid (by rw [HY3.out]; simp)
        obtain ⟨E, hE⟩ : ∃ E, (fun a b => startL x.p a b) px py = E := ⟨_, rfl⟩
        have hlen : E.1.length ≤ 300 := by rw [← hE]; exact startL_le _ _ _
        rw [hE] at HY4
        have HE := Lib.hid hE
        have c6 := (HA.out.below G3).c 6 _ rfl
        clear hE HY3
        go_wp2_with fail
        refine (Start_any Ap np cp px py x.p E _ (by omega) hpc (HP.out.below G3) HE.out).mono ?_; rintro e w4 ⟨A4', c4', rfl, ho4, hb4⟩
        have G4 := btr G3 hb4
        have B4 := btr B3 hb4
        have A4 := HA.out.below G4
        have s4 := own_sl ho4
        obtain ⟨l, le⟩ := E
        simp only at s4 hlen HY4 ho4 ⊢
        obtain ⟨nl, hnl⟩ : ∃ n, n = l.length := ⟨_, rfl⟩
        rw [← hnl] at s4 hlen ⊢
        have HS4 := Lib.hid s4
        have HWN := Lib.hid fun (he : le ≠ 0) W (hb : Below w0.heap.size w0 W) => with_no x (.slice Ap np cp) C D A4' nl c4' le W (H0.out.below hb) he
        have HWO := Lib.hid fun W (hb : Below w4.heap.size w4 W) => with_ok x (.slice Ap np cp) C D A4' nl c4' l W (H0.out.below (btr G4 hb)) HFEW.out (HS4.out.below hb) (by omega)
        clear c6 hb4 s4 hnl ho4
        go_wp2_with (first
          | (refine wpList_load_rec rfl _ _ rfl w.heap.size rfl _ 24 stT A4 rfl ?_)
          | fail)
        by_cases hle : le = 0
        · subst hle
          have HY2 : Hid (Y = ({ x with p := l }, 0)) := Lib.hid (by rw [HY4.out]; simp)
          refine (HWO.out _ (Below.refl _ _)).mono ?_; rintro e w5 ⟨P5, C5, D5, rfl, ho5, hb5⟩
          have G5 := btr G4 hb5
          have B5 := btr B4 hb5
          have R5 := HR.out.below G5
          have hone := ho5.at.one
          have ho6 := ho5.mono (show w0.heap.size ≤ w4.heap.size from G4.size)
          have hF := R5.putAll (stC { x with p := l } P5 C5 D5) rfl
          have hFB := below_setCells (Nat.le_succ w.heap.size) (stC { x with p := l } P5 C5 D5) 0 _ B5
          go_wp2_with (first
            | (refine wpList_store_rec rfl _ _ _ rfl (w.heap.size + 1) (stC { x with p := l } P5 C5 D5) _ rfl rfl 24 stT R5 rfl rfl hone ?_)
            | fail)
          refine bodyPost_ret (result_rec rfl rfl rfl stT hF rfl) rfl ?_
          rw [HY2.out]
          refine ⟨P5, C5, D5, rfl, ?_, hFB⟩
          exact (ho6.setCells hgR _ _).mono (Nat.le_of_lt hgA)
        · have HY2 : Hid (Y = (zeroS, le)) := Lib.hid (by rw [HY4.out]; simp [hle])
          refine (HWN.out hle _ G4).mono ?_; rintro e w5 ⟨rfl, hb5⟩
          have G5 := btr G4 hb5
          have B5 := btr B4 hb5
          clear hle
          have hF := (HR.out.below G5).putAll (stC zeroS (.slice none 0 0) (.slice none 0 0) (.slice none 0 0)) rfl
          have hFB := below_setCells (Nat.le_succ w.heap.size) (stC zeroS (.slice none 0 0) (.slice none 0 0) (.slice none 0 0)) 0 _ (B5)
          go_wp2_with (first
            | (refine wpList_load_rec rfl _ _ rfl (w.heap.size + 1) rfl _ 24 stT (HR.out.below G5) rfl ?_)
            | (refine wpList_store_rec rfl _ _ _ rfl (w.heap.size + 1) (stC zeroS (.slice none 0 0) (.slice none 0 0) (.slice none 0 0)) _ rfl rfl 24 stT (HR.out.below G5) rfl rfl zero_one ?_)
            | fail)
          refine bodyPost_ret (result_rec rfl rfl rfl stT hF rfl) rfl ?_
          rw [HY2.out]
          exact ⟨_, _, _, rfl, zero_own _ _, hFB⟩
      · have HY2 : Hid (Y = (zeroS, pe)) := Lib.hid (by rw [HY3.out]; simp [hpe])
        have he0 : (pe == 0) = false := by simp [hpe]
        have hF := (HR.out.below G3).putAll (stC zeroS (.slice none 0 0) (.slice none 0 0) (.slice none 0 0)) rfl
        have hFB := below_setCells (Nat.le_succ w.heap.size) (stC zeroS (.slice none 0 0) (.slice none 0 0) (.slice none 0 0)) 0 _ (B3)
        go_wp2_with (first
          | (refine wpList_load_rec rfl _ _ rfl (w.heap.size + 1) rfl _ 24 stT (HR.out.below G3) rfl ?_)
          | (refine wpList_store_rec rfl _ _ _ rfl (w.heap.size + 1) (stC zeroS (.slice none 0 0) (.slice none 0 0) (.slice none 0 0)) _ rfl rfl 24 stT (HR.out.below G3) rfl rfl zero_one ?_)
          | fail)
        refine bodyPost_ret (result_rec rfl rfl rfl stT hF rfl) rfl ?_
        rw [HY2.out]
        exact ⟨_, _, _, rfl, zero_own _ _, hFB⟩
set_option maxRecDepth 100000 in
set_option maxHeartbeats 4000000 in
theorem toLine_any (x : St) (P C D : Value) (u v : Int) (d : Bool) (Y : St × Int) (w : World) (h : StAt w x P C D) (hY : toS (fun a b => onL x.p ⟨2, a, b, 0, 0⟩) x u v d = Y) : Calls Try.prog 40 #[.agg (stC x P C D).toArray, .int .i64 u, .int .i64 v, .bool d, .func (.func 42) #[] #[]] w
    fun r w' => ∃ P' C' D', r = .returned (.tuple #[.agg (stC Y.1 P' C' D').toArray, .int .i64 Y.2]) ∧ StOwn w' w.heap.size Y.1 P' C' D' ∧ Below w.heap.size w w' := by
  obtain ⟨w0, hw0⟩ : ∃ w0 : World, w0 = (w.alloc (.cells (stC x P C D).toArray 34)).alloc (.cells (stC zeroS (.slice none 0 0) (.slice none 0 0) (.slice none 0 0)).toArray 34) := ⟨_, rfl⟩
  have hB0 : Below w.heap.size w w0 := by rw [hw0]; exact bal (bal (Below.refl _ _) _) _
  have hA : BC w0 w.heap.size (stC x P C D) := by rw [hw0]; exact (BC.new (stC x P C D) 34 rfl).below (bal (Below.refl _ _) _)
  have hR : BC w0 (w.heap.size + 1) (stC zeroS (.slice none 0 0) (.slice none 0 0) (.slice none 0 0)) := by rw [hw0]; exact BC.new (w := w.alloc (.cells (stC x P C D).toArray 34)) _ 34 (by simp)
  have hgA := hA.lt
  have hgR := hR.lt
  have h0 := h.below hB0
  rw [zero_lit] at hw0
  obtain ⟨Ap, cp, rfl, hp, hpc, hpm⟩ := h0.p
  obtain ⟨np, hnp⟩ : ∃ n, n = x.p.length := ⟨_, rfl⟩
  rw [← hnp] at hw0 hA hp hpc h h0 ⊢
  have HY := Lib.hid hY
  have HM := Lib.hid fun W (hb : Below w0.heap.size w0 W) => stMay_any x (.slice Ap np cp) C D W (h0.below hb)
  have H0 := Lib.hid h0
  have HP := Lib.hid hp
  have HA := Lib.hid hA
  have HR := Lib.hid hR
  have HNP := Lib.hid hnp
  clear hY h0 h hp hA hR hnp
  go_enter Try.func40, Try.ntmps40
  go_upto_region 1 with (fail)
  rw [← hw0]
  clear hw0
  go_wp2_with (first
    | (refine wpList_load_rec rfl _ _ rfl w.heap.size rfl _ 24 stT HA.out rfl ?_)
    | fail)
  refine (HM.out _ (Below.refl _ _)).mono ?_; rintro e w1 ⟨rfl, hb1⟩
  have G1 := hb1
  have B1 := btr hB0 G1
  clear hb1
  cases hm : mayS x
  · have HY2 : Hid (Y = (zeroS, 1)) := Lib.hid (by rw [← HY.out]; unfold toS; rw [hm]; simp)
    have hF := (HR.out.below G1).putAll (stC zeroS (.slice none 0 0) (.slice none 0 0) (.slice none 0 0)) rfl
    have hFB := below_setCells (Nat.le_succ w.heap.size) (stC zeroS (.slice none 0 0) (.slice none 0 0) (.slice none 0 0)) 0 _ (B1)
    go_wp2_with (first
      | (refine wpList_load_rec rfl _ _ rfl (w.heap.size + 1) rfl _ 24 stT (HR.out.below G1) rfl ?_)
      | (refine wpList_store_rec rfl _ _ _ rfl (w.heap.size + 1) (stC zeroS (.slice none 0 0) (.slice none 0 0) (.slice none 0 0)) _ rfl rfl 24 stT (HR.out.below G1) rfl rfl zero_one ?_)
      | fail)
    refine bodyPost_ret (result_rec rfl rfl rfl stT hF rfl) rfl ?_
    rw [HY2.out]
    exact ⟨_, _, _, rfl, zero_own _ _, hFB⟩
  · have hfew := mayS_few hm
    have hnp3 : np ≤ 1000 := by rw [HNP.out]; exact hfew.1
    have HFEW := Lib.hid hfew
    clear hfew
    go_wp2_with fail
    refine (stmay_any _ 2 _ [u, v] _ (by omega) (sl_new (w := w1) (t := 3) (ints [u, v]) rfl rfl)).mono ?_; rintro e w' ⟨rfl, rfl⟩
    have G2 := bal G1 (.cells (ints [u, v]).toArray 3)
    have B2 := bal B1 (.cells (ints [u, v]).toArray 3)
    obtain ⟨w2, hw2⟩ : ∃ w2, w2 = w1.alloc (.cells (ints [u, v]).toArray 3) := ⟨_, rfl⟩
    rw [← hw2] at G2 B2 ⊢
    clear hw2
    cases hf : [u, v].all fixB
    · have HY2 : Hid (Y = (zeroS, 1)) := Lib.hid (by rw [← HY.out]; unfold toS; rw [hm, hf]; simp)
      have hF := (HR.out.below G2).putAll (stC zeroS (.slice none 0 0) (.slice none 0 0) (.slice none 0 0)) rfl
      have hFB := below_setCells (Nat.le_succ w.heap.size) (stC zeroS (.slice none 0 0) (.slice none 0 0) (.slice none 0 0)) 0 _ (B2)
      go_wp2_with (first
        | (refine wpList_load_rec rfl _ _ rfl (w.heap.size + 1) rfl _ 24 stT (HR.out.below G2) rfl ?_)
        | (refine wpList_store_rec rfl _ _ _ rfl (w.heap.size + 1) (stC zeroS (.slice none 0 0) (.slice none 0 0) (.slice none 0 0)) _ rfl rfl 24 stT (HR.out.below G2) rfl rfl zero_one ?_)
        | fail)
      refine bodyPost_ret (result_rec rfl rfl rfl stT hF rfl) rfl ?_
      rw [HY2.out]
      exact ⟨_, _, _, rfl, zero_own _ _, hFB⟩
    · obtain ⟨⟨px, py, pe⟩, hpt⟩ : ∃ p, pointS x.m x.p u v d = p := ⟨_, rfl⟩
      have HPt := Lib.hid fun W (hb : Below w0.heap.size w0 W) => point_any x (.slice Ap np cp) C D u v d W (H0.out.below hb) HFEW.out
      rw [hpt] at HPt
      unfold vP at HPt
      simp only at HPt
      have HY3 : Hid (Y = if pe ≠ 0 then (zeroS, pe) else if ((fun a b => onL x.p ⟨2, a, b, 0, 0⟩) px py).2 ≠ 0 then (zeroS, ((fun a b => onL x.p ⟨2, a, b, 0, 0⟩) px py).2) else ({ x with p := ((fun a b => onL x.p ⟨2, a, b, 0, 0⟩) px py).1 }, 0)) := Lib.hid (by rw [← HY.out]; unfold toS; rw [hm, hf, hpt]; simp)
      clear hpt HY hf hm
      have A2 := HA.out.below G2
      go_wp2_with (first
        | (refine wpList_load_rec rfl _ _ rfl w.heap.size rfl _ 24 stT A2 rfl ?_)
        | fail)
      refine (HPt.out _ G2).mono ?_; rintro e w3 ⟨rfl, hb3⟩
      have G3 := btr G2 hb3
      have B3 := btr B2 hb3
      clear hb3 A2 HPt
      by_cases hpe : pe = 0
      · subst hpe
        have HY4 : Hid (Y = if ((fun a b => onL x.p ⟨2, a, b, 0, 0⟩) px py).2 ≠ 0 then (zeroS, ((fun a b => onL x.p ⟨2, a, b, 0, 0⟩) px py).2) else ({ x with p := ((fun a b => onL x.p ⟨2, a, b, 0, 0⟩) px py).1 }, 0)) := Lib.hid (by rw [HY3.out]; simp)
        obtain ⟨E, hE⟩ : ∃ E, (fun a b => onL x.p ⟨2, a, b, 0, 0⟩) px py = E := ⟨_, rfl⟩
        have hlen : E.1.length ≤ 300 := by rw [← hE]; exact onL_le _ _
        rw [hE] at HY4
        have HE := Lib.hid hE
        have c6 := (HA.out.below G3).c 6 _ rfl
        clear hE HY3
        go_wp2_with fail
        refine (Line_any Ap np cp px py x.p E _ (by omega) (HP.out.below G3) HE.out).mono ?_; rintro e w4 ⟨A4', c4', rfl, ho4, hb4⟩
        have G4 := btr G3 hb4
        have B4 := btr B3 hb4
        have A4 := HA.out.below G4
        have s4 := own_sl ho4
        obtain ⟨l, le⟩ := E
        simp only at s4 hlen HY4 ho4 ⊢
        obtain ⟨nl, hnl⟩ : ∃ n, n = l.length := ⟨_, rfl⟩
        rw [← hnl] at s4 hlen ⊢
        have HS4 := Lib.hid s4
        have HWN := Lib.hid fun (he : le ≠ 0) W (hb : Below w0.heap.size w0 W) => with_no x (.slice Ap np cp) C D A4' nl c4' le W (H0.out.below hb) he
        have HWO := Lib.hid fun W (hb : Below w4.heap.size w4 W) => with_ok x (.slice Ap np cp) C D A4' nl c4' l W (H0.out.below (btr G4 hb)) HFEW.out (HS4.out.below hb) (by omega)
        clear c6 hb4 s4 hnl ho4
        go_wp2_with (first
          | (refine wpList_load_rec rfl _ _ rfl w.heap.size rfl _ 24 stT A4 rfl ?_)
          | fail)
        by_cases hle : le = 0
        · subst hle
          have HY2 : Hid (Y = ({ x with p := l }, 0)) := Lib.hid (by rw [HY4.out]; simp)
          refine (HWO.out _ (Below.refl _ _)).mono ?_; rintro e w5 ⟨P5, C5, D5, rfl, ho5, hb5⟩
          have G5 := btr G4 hb5
          have B5 := btr B4 hb5
          have R5 := HR.out.below G5
          have hone := ho5.at.one
          have ho6 := ho5.mono (show w0.heap.size ≤ w4.heap.size from G4.size)
          have hF := R5.putAll (stC { x with p := l } P5 C5 D5) rfl
          have hFB := below_setCells (Nat.le_succ w.heap.size) (stC { x with p := l } P5 C5 D5) 0 _ B5
          go_wp2_with (first
            | (refine wpList_store_rec rfl _ _ _ rfl (w.heap.size + 1) (stC { x with p := l } P5 C5 D5) _ rfl rfl 24 stT R5 rfl rfl hone ?_)
            | fail)
          refine bodyPost_ret (result_rec rfl rfl rfl stT hF rfl) rfl ?_
          rw [HY2.out]
          refine ⟨P5, C5, D5, rfl, ?_, hFB⟩
          exact (ho6.setCells hgR _ _).mono (Nat.le_of_lt hgA)
        · have HY2 : Hid (Y = (zeroS, le)) := Lib.hid (by rw [HY4.out]; simp [hle])
          refine (HWN.out hle _ G4).mono ?_; rintro e w5 ⟨rfl, hb5⟩
          have G5 := btr G4 hb5
          have B5 := btr B4 hb5
          clear hle
          have hF := (HR.out.below G5).putAll (stC zeroS (.slice none 0 0) (.slice none 0 0) (.slice none 0 0)) rfl
          have hFB := below_setCells (Nat.le_succ w.heap.size) (stC zeroS (.slice none 0 0) (.slice none 0 0) (.slice none 0 0)) 0 _ (B5)
          go_wp2_with (first
            | (refine wpList_load_rec rfl _ _ rfl (w.heap.size + 1) rfl _ 24 stT (HR.out.below G5) rfl ?_)
            | (refine wpList_store_rec rfl _ _ _ rfl (w.heap.size + 1) (stC zeroS (.slice none 0 0) (.slice none 0 0) (.slice none 0 0)) _ rfl rfl 24 stT (HR.out.below G5) rfl rfl zero_one ?_)
            | fail)
          refine bodyPost_ret (result_rec rfl rfl rfl stT hF rfl) rfl ?_
          rw [HY2.out]
          exact ⟨_, _, _, rfl, zero_own _ _, hFB⟩
      · have HY2 : Hid (Y = (zeroS, pe)) := Lib.hid (by rw [HY3.out]; simp [hpe])
        have he0 : (pe == 0) = false := by simp [hpe]
        have hF := (HR.out.below G3).putAll (stC zeroS (.slice none 0 0) (.slice none 0 0) (.slice none 0 0)) rfl
        have hFB := below_setCells (Nat.le_succ w.heap.size) (stC zeroS (.slice none 0 0) (.slice none 0 0) (.slice none 0 0)) 0 _ (B3)
        go_wp2_with (first
          | (refine wpList_load_rec rfl _ _ rfl (w.heap.size + 1) rfl _ 24 stT (HR.out.below G3) rfl ?_)
          | (refine wpList_store_rec rfl _ _ _ rfl (w.heap.size + 1) (stC zeroS (.slice none 0 0) (.slice none 0 0) (.slice none 0 0)) _ rfl rfl 24 stT (HR.out.below G3) rfl rfl zero_one ?_)
          | fail)
        refine bodyPost_ret (result_rec rfl rfl rfl stT hF rfl) rfl ?_
        rw [HY2.out]
        exact ⟨_, _, _, rfl, zero_own _ _, hFB⟩
end Go.Proofs.Ytaadajadeemndaa
