/- state.base, point. -/
import Derived.Test.YtdfkbbcoolgfiaaGreatMS4
import Derived.Test.YtdfkbbcoolgfiaaGreatAllP
import Derived.Test.YtdfkbbcoolgfiaaGreatMAdd
namespace Go.Proofs.YtdfkbbcoolgfiaaGreat
open Go.RowKit Go.BigFrame

def baseL (l : List Sg) : Int × Int × Int := if (ptL l).2.2 then ((ptL l).1, (ptL l).2.1, 0) else (0, 0, 13)
def pointS (m : Mt) (l : List Sg) (u v : Int) (d : Bool) : Int × Int × Int :=
  if d then (if (baseL l).2.2 ≠ 0 then (0, 0, (baseL l).2.2) else if (vectorM m u v).2.2 ≠ 0 then (0, 0, (vectorM m u v).2.2) else
    if inB ((vectorM m u v).1 + (baseL l).1) (-8191) 8191 && inB ((vectorM m u v).2.1 + (baseL l).2.1) (-8191) 8191 then ((vectorM m u v).1 + (baseL l).1, (vectorM m u v).2.1 + (baseL l).2.1, 0) else (0, 0, 2))
  else pointM m u v
set_option maxRecDepth 100000 in
set_option maxHeartbeats 4000000 in
theorem base_any (x : St) (P C D : Value) (w : World) (h : StAt w x P C D) (hf : stFew x) : Calls Tryz.prog 91 #[.agg (stC x P C D).toArray] w
    fun r w' => r = .returned (vP (baseL x.p)) ∧ Below w.heap.size w w' := by
  obtain ⟨w0, hw0⟩ : ∃ w0 : World, w0 = w.alloc (.cells (stC x P C D).toArray 32) := ⟨_, rfl⟩
  have hB0 : Below w.heap.size w w0 := by rw [hw0]; exact bal (Below.refl _ _) _
  have hA : BC w0 w.heap.size (stC x P C D) := by rw [hw0]; exact BC.new (stC x P C D) 32 rfl
  have h0 := h.below hB0
  obtain ⟨Ap, cp, rfl, hp, hpc, hpm⟩ := h0.p
  obtain ⟨np, hnp⟩ : ∃ n, n = x.p.length := ⟨_, rfl⟩
  obtain ⟨⟨px, py, ok⟩, hpt⟩ : ∃ p, ptL x.p = p := ⟨_, rfl⟩
  have hfp := hf.1
  rw [← hnp] at hA hw0 hp hfp ⊢
  have HX := Lib.hid fun W (hb : Below w0.heap.size w0 W) => Point_any Ap np cp x.p (px, py, ok) W (by omega) (hp.below hb) hpt
  unfold baseL
  rw [hpt]
  simp only
  have a6 := hA.c 6 _ rfl
  clear hnp hpt hp h0 h
  go_enter Tryz.func91, Tryz.ntmps91
  go_upto_region 1 with (fail)
  rw [← hw0]
  clear hw0
  go_wp2_with fail
  refine (HX.out _ (Below.refl _ _)).mono ?_; rintro e w1 ⟨rfl, hb1⟩
  have B1 := btr hB0 hb1
  clear a6 hA hb1
  cases ok
  · go_wp2_with fail
    go_ret3
    exact ⟨rfl, B1⟩
  · go_wp2_with fail
    go_ret3
    exact ⟨rfl, B1⟩
theorem base_bd (l : List Sg) : -8191 ≤ (baseL l).1 ∧ (baseL l).1 ≤ 8191 ∧ -8191 ≤ (baseL l).2.1 ∧ (baseL l).2.1 ≤ 8191 := by
  unfold baseL
  split
  · rename_i h
    obtain ⟨h1, h2⟩ := ptL_co h
    rw [co_iff'] at h1 h2
    exact ⟨h1.1, h1.2, h2.1, h2.2⟩
  · refine ⟨?_, ?_, ?_, ?_⟩ <;> simp only <;> omega
theorem nearP_bd (x y k : Int) (hk : 0 ≤ k) : -k ≤ (nearP x y k).1 ∧ (nearP x y k).1 ≤ k ∧ -k ≤ (nearP x y k).2.1 ∧ (nearP x y k).2.1 ≤ k := by
  unfold nearP
  split
  · refine ⟨?_, ?_, ?_, ?_⟩ <;> simp only <;> omega
  · refine ⟨?_, ?_, ?_, ?_⟩ <;> simp only <;> omega
theorem vector_bd (m : Mt) (u v : Int) : -16382 ≤ (vectorM m u v).1 ∧ (vectorM m u v).1 ≤ 16382 ∧ -16382 ≤ (vectorM m u v).2.1 ∧ (vectorM m u v).2.1 ≤ 16382 := by
  unfold vectorM
  split
  · exact nearP_bd _ _ _ (by omega)
  · refine ⟨?_, ?_, ?_, ?_⟩ <;> simp only <;> omega
set_option maxRecDepth 100000 in
set_option maxHeartbeats 4000000 in
theorem point_any (x : St) (P C D : Value) (u v : Int) (d : Bool) (w : World) (h : StAt w x P C D) (hf : stFew x) : Calls Tryz.prog 108 #[.agg (stC x P C D).toArray, .int .i64 u, .int .i64 v, .bool d] w
    fun r w' => r = .returned (vP (pointS x.m x.p u v d)) ∧ Below w.heap.size w w' := by
  obtain ⟨w0, hw0⟩ : ∃ w0 : World, w0 = w.alloc (.cells (stC x P C D).toArray 32) := ⟨_, rfl⟩
  have hB0 : Below w.heap.size w w0 := by rw [hw0]; exact bal (Below.refl _ _) _
  have hA : BC w0 w.heap.size (stC x P C D) := by rw [hw0]; exact BC.new (stC x P C D) 32 rfl
  have h0 := h.below hB0
  have HP := Lib.hid fun W => matPoint_any x.m u v W
  have HV := Lib.hid fun W => matVector_any x.m u v W
  have HB := Lib.hid fun W (hb : Below w0.heap.size w0 W) => base_any x P C D W (h0.below hb) hf
  have hbd := base_bd x.p
  have hvd := vector_bd x.m u v
  unfold pointS
  obtain ⟨⟨vx, vy, ve⟩, hv⟩ : ∃ p, vectorM x.m u v = p := ⟨_, rfl⟩
  obtain ⟨⟨bx, by0, be⟩, hb0⟩ : ∃ p, baseL x.p = p := ⟨_, rfl⟩
  obtain ⟨⟨qx, qy, qe⟩, hq⟩ : ∃ p, pointM x.m u v = p := ⟨_, rfl⟩
  rw [hv] at HV hvd ⊢
  rw [hb0] at HB hbd ⊢
  rw [hq] at HP ⊢
  unfold mtv vP at HP HV
  unfold vP at HB
  simp only at HP HV HB hbd hvd ⊢
  obtain ⟨v1, v2, v3, v4⟩ := hvd
  obtain ⟨b1, b2, b3, b4⟩ := hbd
  have e1 : IntKind.i64.wrap (vx + bx) = vx + bx := IntWalk.i64_in _ (by omega)
  have e2 : IntKind.i64.wrap (vy + by0) = vy + by0 := IntWalk.i64_in _ (by omega)
  clear hv hb0 hq h0 h
  have c0 := hA.c 0 _ rfl
  have c1 := hA.c 1 _ rfl
  have c2 := hA.c 2 _ rfl
  have c3 := hA.c 3 _ rfl
  have c4 := hA.c 4 _ rfl
  have c5 := hA.c 5 _ rfl
  go_enter Tryz.func108, Tryz.ntmps108
  go_upto_region 1 with (fail)
  rw [← hw0]
  clear hw0
  cases d
  · go_wp2_with fail
    refine (HP.out _).mono ?_; rintro e w1 ⟨rfl, hb1⟩
    go_wp2_with fail
    go_ret3
    exact ⟨rfl, btr hB0 hb1⟩
  · go_wp2_with (first
      | (refine wpList_load_rec rfl _ _ rfl w.heap.size rfl _ 24 stateT hA rfl ?_)
      | fail)
    refine (HB.out _ (Below.refl _ _)).mono ?_; rintro e w1 ⟨rfl, hb1⟩
    have B1 := btr hB0 hb1
    have hA1 := hA.below hb1
    clear c0 c1 c2 c3 c4 c5 hA
    by_cases hbe : be = 0
    · subst hbe
      have c0 := hA1.c 0 _ rfl
      have c1 := hA1.c 1 _ rfl
      have c2 := hA1.c 2 _ rfl
      have c3 := hA1.c 3 _ rfl
      have c4 := hA1.c 4 _ rfl
      have c5 := hA1.c 5 _ rfl
      go_wp2_with fail
      refine (HV.out _).mono ?_; rintro e w2 ⟨rfl, hb2⟩
      have B2 := btr B1 hb2
      clear c0 c1 c2 c3 c4 c5 hA1 hb1 hb2 B1
      by_cases hve : ve = 0
      · subst hve
        go_wp2_with fail
        refine (stWithin_any _ _ _ _).mono ?_; rintro e w' ⟨rfl, rfl⟩
        obtain ⟨i1, hi1⟩ : ∃ q, inB (vx + bx) (-8191) 8191 = q := ⟨_, rfl⟩
        rw [hi1]
        cases i1
        · go_wp2_with fail
          go_ret3
          refine ⟨?_, B2⟩
          simp [vP]
        · go_wp2_with fail
          refine (stWithin_any _ _ _ _).mono ?_; rintro e w' ⟨rfl, rfl⟩
          obtain ⟨i2, hi2⟩ : ∃ q, inB (vy + by0) (-8191) 8191 = q := ⟨_, rfl⟩
          rw [hi2]
          cases i2
          · go_wp2_with fail
            go_ret3
            refine ⟨?_, B2⟩
            simp [vP]
          · go_wp2_with fail
            go_ret3
            refine ⟨?_, B2⟩
            simp [vP]
      · have he0 : (ve == 0) = false := by simp [hve]
        go_wp2_with fail
        go_ret3
        refine ⟨?_, B2⟩
        simp [vP]
    · have he0 : (be == 0) = false := by simp [hbe]
      go_wp2_with fail
      go_ret3
      refine ⟨?_, B1⟩
      simp [vP]
end Go.Proofs.YtdfkbbcoolgfiaaGreat

namespace Go.Proofs.YtdfkbbcoolgfiaaGreat
open Go.RowKit Go.BigFrame

/-- Through a function that goes on a path. -/
def toS (F : Int → Int → List Sg × Int) (x : St) (u v : Int) (d : Bool) : St × Int :=
  if (mayS x && [u, v].all fixB) = false then (zeroS, 1)
  else if (pointS x.m x.p u v d).2.2 ≠ 0 then (zeroS, (pointS x.m x.p u v d).2.2)
  else if (F (pointS x.m x.p u v d).1 (pointS x.m x.p u v d).2.1).2 ≠ 0 then (zeroS, (F (pointS x.m x.p u v d).1 (pointS x.m x.p u v d).2.1).2)
  else ({ x with p := (F (pointS x.m x.p u v d).1 (pointS x.m x.p u v d).2.1).1 }, 0)
/-- The length of a path that a path becomes. -/
theorem slongL_le (l k : List Sg) : (longL l k).1.length ≤ 300 := by
  unfold longL
  split
  · simp
  · simp only [List.length_append]; omega
theorem sstartL_le (l : List Sg) (x y : Int) : (startL l x y).1.length ≤ 300 := by
  unfold startL
  split
  · simp
  · split
    · simp
    · exact slongL_le _ _
theorem sonL_le (l : List Sg) (s : Sg) : (onL l s).1.length ≤ 300 := by
  unfold onL
  split
  · simp
  · split
    · simp
    · split
      · simp
      · split
        · exact slongL_le _ _
        · exact slongL_le _ _
theorem sshutL_le (l : List Sg) : (shutL l).1.length ≤ 300 := by
  unfold shutL
  split
  · simp
  · split <;> exact slongL_le _ _
theorem joinL_le (l k : List Sg) : (joinL l k).1.length ≤ 300 := by
  unfold joinL
  split
  · simp
  · exact slongL_le _ _

set_option maxRecDepth 100000 in
set_option maxHeartbeats 4000000 in
theorem toStart_any (x : St) (P C D : Value) (u v : Int) (d : Bool) (Y : St × Int) (w : World) (h : StAt w x P C D) (hY : toS (fun a b => startL x.p a b) x u v d = Y) : Calls Tryz.prog 55 #[.agg (stC x P C D).toArray, .int .i64 u, .int .i64 v, .bool d, .func (.func 56) #[] #[]] w
    fun r w' => ∃ P' C' D', r = .returned (.tuple #[.agg (stC Y.1 P' C' D').toArray, .int .i64 Y.2]) ∧ StOwn w' w.heap.size Y.1 P' C' D' ∧ Below w.heap.size w w' := by
  obtain ⟨w0, hw0⟩ : ∃ w0 : World, w0 = (w.alloc (.cells (stC x P C D).toArray 32)).alloc (.cells (stC zeroS (.slice none 0 0) (.slice none 0 0) (.slice none 0 0)).toArray 32) := ⟨_, rfl⟩
  have hB0 : Below w.heap.size w w0 := by rw [hw0]; exact bal (bal (Below.refl _ _) _) _
  have hA : BC w0 w.heap.size (stC x P C D) := by rw [hw0]; exact (BC.new (stC x P C D) 32 rfl).below (bal (Below.refl _ _) _)
  have hR : BC w0 (w.heap.size + 1) (stC zeroS (.slice none 0 0) (.slice none 0 0) (.slice none 0 0)) := by rw [hw0]; exact BC.new (w := w.alloc (.cells (stC x P C D).toArray 32)) _ 32 (by simp)
  have hgA := hA.lt
  have hgR := hR.lt
  have h0 := h.below hB0
  rw [zero_lit] at hw0
  obtain ⟨Ap, cp, rfl, hp, hpc, hpm⟩ := h0.p
  obtain ⟨np, hnp⟩ : ∃ n, n = x.p.length := ⟨_, rfl⟩
  rw [← hnp] at hw0 hA hp hpc h h0 ⊢
  have HY := Lib.hid hY
  have HM := Lib.hid fun W (hb : Below w0.heap.size w0 W) => stMay_any x (.slice Ap np cp) C D W (h0.below hb)
  have H0 := Lib.hid h0
  have HP := Lib.hid hp
  have HA := Lib.hid hA
  have HR := Lib.hid hR
  have HNP := Lib.hid hnp
  clear hY h0 h hp hA hR hnp
  go_enter Tryz.func55, Tryz.ntmps55
  go_upto_region 1 with (fail)
  rw [← hw0]
  clear hw0
  go_wp2_with (first
    | (refine wpList_load_rec rfl _ _ rfl w.heap.size rfl _ 24 stateT HA.out rfl ?_)
    | fail)
  refine (HM.out _ (Below.refl _ _)).mono ?_; rintro e w1 ⟨rfl, hb1⟩
  have G1 := hb1
  have B1 := btr hB0 G1
  clear hb1
  cases hm : mayS x
  · have HY2 : Hid (Y = (zeroS, 1)) := Lib.hid (by rw [← HY.out]; unfold toS; rw [hm]; simp)
    have hF := (HR.out.below G1).putAll (stC zeroS (.slice none 0 0) (.slice none 0 0) (.slice none 0 0)) rfl
    have hFB := below_setCells (Nat.le_succ w.heap.size) (stC zeroS (.slice none 0 0) (.slice none 0 0) (.slice none 0 0)) 0 _ (B1)
    go_wp2_with (first
      | (refine wpList_load_rec rfl _ _ rfl (w.heap.size + 1) rfl _ 24 stateT (HR.out.below G1) rfl ?_)
      | (refine wpList_store_rec rfl _ _ _ rfl (w.heap.size + 1) (stC zeroS (.slice none 0 0) (.slice none 0 0) (.slice none 0 0)) _ rfl rfl 24 stateT (HR.out.below G1) rfl rfl zero_one ?_)
      | fail)
    refine bodyPost_ret (result_rec rfl rfl rfl stateT hF rfl) rfl ?_
    rw [HY2.out]
    exact ⟨_, _, _, rfl, zero_own _ _, hFB⟩
  · have hfew := mayS_few hm
    have hnp3 : np ≤ 1000 := by rw [HNP.out]; exact hfew.1
    have HFEW := Lib.hid hfew
    clear hfew
    go_wp2_with fail
    refine (stmay_any _ 2 _ [u, v] _ (by omega) (sl_new (w := w1) (t := 3) (ints [u, v]) rfl rfl)).mono ?_; rintro e w' ⟨rfl, rfl⟩
    have G2 := bal G1 (.cells (ints [u, v]).toArray 3)
    have B2 := bal B1 (.cells (ints [u, v]).toArray 3)
    obtain ⟨w2, hw2⟩ : ∃ w2, w2 = w1.alloc (.cells (ints [u, v]).toArray 3) := ⟨_, rfl⟩
    rw [← hw2] at G2 B2 ⊢
    clear hw2
    cases hf : [u, v].all fixB
    · have HY2 : Hid (Y = (zeroS, 1)) := Lib.hid (by rw [← HY.out]; unfold toS; rw [hm, hf]; simp)
      have hF := (HR.out.below G2).putAll (stC zeroS (.slice none 0 0) (.slice none 0 0) (.slice none 0 0)) rfl
      have hFB := below_setCells (Nat.le_succ w.heap.size) (stC zeroS (.slice none 0 0) (.slice none 0 0) (.slice none 0 0)) 0 _ (B2)
      go_wp2_with (first
        | (refine wpList_load_rec rfl _ _ rfl (w.heap.size + 1) rfl _ 24 stateT (HR.out.below G2) rfl ?_)
        | (refine wpList_store_rec rfl _ _ _ rfl (w.heap.size + 1) (stC zeroS (.slice none 0 0) (.slice none 0 0) (.slice none 0 0)) _ rfl rfl 24 stateT (HR.out.below G2) rfl rfl zero_one ?_)
        | fail)
      refine bodyPost_ret (result_rec rfl rfl rfl stateT hF rfl) rfl ?_
      rw [HY2.out]
      exact ⟨_, _, _, rfl, zero_own _ _, hFB⟩
    · obtain ⟨⟨px, py, pe⟩, hpt⟩ : ∃ p, pointS x.m x.p u v d = p := ⟨_, rfl⟩
      have HPt := Lib.hid fun W (hb : Below w0.heap.size w0 W) => point_any x (.slice Ap np cp) C D u v d W (H0.out.below hb) HFEW.out
      rw [hpt] at HPt
      unfold vP at HPt
      simp only at HPt
      have HY3 : Hid (Y = if pe ≠ 0 then (zeroS, pe) else if ((fun a b => startL x.p a b) px py).2 ≠ 0 then (zeroS, ((fun a b => startL x.p a b) px py).2) else ({ x with p := ((fun a b => startL x.p a b) px py).1 }, 0)) := Lib.hid (by rw [← HY.out]; unfold toS; rw [hm, hf, hpt]; simp)
      clear hpt HY hf hm
      have A2 := HA.out.below G2
      go_wp2_with (first
        | (refine wpList_load_rec rfl _ _ rfl w.heap.size rfl _ 24 stateT A2 rfl ?_)
        | fail)
      refine (HPt.out _ G2).mono ?_; rintro e w3 ⟨rfl, hb3⟩
      have G3 := btr G2 hb3
      have B3 := btr B2 hb3
      clear hb3 A2 HPt
      by_cases hpe : pe = 0
      · subst hpe
        have HY4 : Hid (Y = if ((fun a b => startL x.p a b) px py).2 ≠ 0 then (zeroS, ((fun a b => startL x.p a b) px py).2) else ({ x with p := ((fun a b => startL x.p a b) px py).1 }, 0)) := Lib.hid (by rw [HY3.out]; simp)
        obtain ⟨E, hE⟩ : ∃ E, (fun a b => startL x.p a b) px py = E := ⟨_, rfl⟩
        have hlen : E.1.length ≤ 300 := by rw [← hE]; exact sstartL_le _ _ _
        rw [hE] at HY4
        have HE := Lib.hid hE
        have c6 := (HA.out.below G3).c 6 _ rfl
        clear hE HY3
        go_wp2_with fail
        refine (Start_any Ap np cp px py x.p E _ (by omega) hpc (HP.out.below G3) HE.out).mono ?_; rintro e w4 ⟨A4', c4', rfl, ho4, hb4⟩
        have G4 := btr G3 hb4
        have B4 := btr B3 hb4
        have A4 := HA.out.below G4
        have s4 := own_sl ho4
        obtain ⟨l, le⟩ := E
        simp only at s4 hlen HY4 ho4 ⊢
        obtain ⟨nl, hnl⟩ : ∃ n, n = l.length := ⟨_, rfl⟩
        rw [← hnl] at s4 hlen ⊢
        have HS4 := Lib.hid s4
        have HWN := Lib.hid fun (he : le ≠ 0) W (hb : Below w0.heap.size w0 W) => with_no x (.slice Ap np cp) C D A4' nl c4' le W (H0.out.below hb) he
        have HWO := Lib.hid fun W (hb : Below w4.heap.size w4 W) => with_ok x (.slice Ap np cp) C D A4' nl c4' l W (H0.out.below (btr G4 hb)) HFEW.out (HS4.out.below hb) (by omega)
        clear c6 hb4 s4 hnl ho4
        go_wp2_with (first
          | (refine wpList_load_rec rfl _ _ rfl w.heap.size rfl _ 24 stateT A4 rfl ?_)
          | fail)
        by_cases hle : le = 0
        · subst hle
          have HY2 : Hid (Y = ({ x with p := l }, 0)) := Lib.hid (by rw [HY4.out]; simp)
          refine (HWO.out _ (Below.refl _ _)).mono ?_; rintro e w5 ⟨P5, C5, D5, rfl, ho5, hb5⟩
          have G5 := btr G4 hb5
          have B5 := btr B4 hb5
          have R5 := HR.out.below G5
          have hone := ho5.at.one
          have ho6 := ho5.mono (show w0.heap.size ≤ w4.heap.size from G4.size)
          have hF := R5.putAll (stC { x with p := l } P5 C5 D5) rfl
          have hFB := below_setCells (Nat.le_succ w.heap.size) (stC { x with p := l } P5 C5 D5) 0 _ B5
          go_wp2_with (first
            | (refine wpList_store_rec rfl _ _ _ rfl (w.heap.size + 1) (stC { x with p := l } P5 C5 D5) _ rfl rfl 24 stateT R5 rfl rfl hone ?_)
            | fail)
          refine bodyPost_ret (result_rec rfl rfl rfl stateT hF rfl) rfl ?_
          rw [HY2.out]
          refine ⟨P5, C5, D5, rfl, ?_, hFB⟩
          exact (ho6.setCells hgR _ _).mono (Nat.le_of_lt hgA)
        · have HY2 : Hid (Y = (zeroS, le)) := Lib.hid (by rw [HY4.out]; simp [hle])
          refine (HWN.out hle _ G4).mono ?_; rintro e w5 ⟨rfl, hb5⟩
          have G5 := btr G4 hb5
          have B5 := btr B4 hb5
          clear hle
          have hF := (HR.out.below G5).putAll (stC zeroS (.slice none 0 0) (.slice none 0 0) (.slice none 0 0)) rfl
          have hFB := below_setCells (Nat.le_succ w.heap.size) (stC zeroS (.slice none 0 0) (.slice none 0 0) (.slice none 0 0)) 0 _ (B5)
          go_wp2_with (first
            | (refine wpList_load_rec rfl _ _ rfl (w.heap.size + 1) rfl _ 24 stateT (HR.out.below G5) rfl ?_)
            | (refine wpList_store_rec rfl _ _ _ rfl (w.heap.size + 1) (stC zeroS (.slice none 0 0) (.slice none 0 0) (.slice none 0 0)) _ rfl rfl 24 stateT (HR.out.below G5) rfl rfl zero_one ?_)
            | fail)
          refine bodyPost_ret (result_rec rfl rfl rfl stateT hF rfl) rfl ?_
          rw [HY2.out]
          exact ⟨_, _, _, rfl, zero_own _ _, hFB⟩
      · have HY2 : Hid (Y = (zeroS, pe)) := Lib.hid (by rw [HY3.out]; simp [hpe])
        have he0 : (pe == 0) = false := by simp [hpe]
        have hF := (HR.out.below G3).putAll (stC zeroS (.slice none 0 0) (.slice none 0 0) (.slice none 0 0)) rfl
        have hFB := below_setCells (Nat.le_succ w.heap.size) (stC zeroS (.slice none 0 0) (.slice none 0 0) (.slice none 0 0)) 0 _ (B3)
        go_wp2_with (first
          | (refine wpList_load_rec rfl _ _ rfl (w.heap.size + 1) rfl _ 24 stateT (HR.out.below G3) rfl ?_)
          | (refine wpList_store_rec rfl _ _ _ rfl (w.heap.size + 1) (stC zeroS (.slice none 0 0) (.slice none 0 0) (.slice none 0 0)) _ rfl rfl 24 stateT (HR.out.below G3) rfl rfl zero_one ?_)
          | fail)
        refine bodyPost_ret (result_rec rfl rfl rfl stateT hF rfl) rfl ?_
        rw [HY2.out]
        exact ⟨_, _, _, rfl, zero_own _ _, hFB⟩
set_option maxRecDepth 100000 in
set_option maxHeartbeats 4000000 in
theorem toLine_any (x : St) (P C D : Value) (u v : Int) (d : Bool) (Y : St × Int) (w : World) (h : StAt w x P C D) (hY : toS (fun a b => onL x.p ⟨2, a, b, 0, 0⟩) x u v d = Y) : Calls Tryz.prog 55 #[.agg (stC x P C D).toArray, .int .i64 u, .int .i64 v, .bool d, .func (.func 208) #[] #[]] w
    fun r w' => ∃ P' C' D', r = .returned (.tuple #[.agg (stC Y.1 P' C' D').toArray, .int .i64 Y.2]) ∧ StOwn w' w.heap.size Y.1 P' C' D' ∧ Below w.heap.size w w' := by
  obtain ⟨w0, hw0⟩ : ∃ w0 : World, w0 = (w.alloc (.cells (stC x P C D).toArray 32)).alloc (.cells (stC zeroS (.slice none 0 0) (.slice none 0 0) (.slice none 0 0)).toArray 32) := ⟨_, rfl⟩
  have hB0 : Below w.heap.size w w0 := by rw [hw0]; exact bal (bal (Below.refl _ _) _) _
  have hA : BC w0 w.heap.size (stC x P C D) := by rw [hw0]; exact (BC.new (stC x P C D) 32 rfl).below (bal (Below.refl _ _) _)
  have hR : BC w0 (w.heap.size + 1) (stC zeroS (.slice none 0 0) (.slice none 0 0) (.slice none 0 0)) := by rw [hw0]; exact BC.new (w := w.alloc (.cells (stC x P C D).toArray 32)) _ 32 (by simp)
  have hgA := hA.lt
  have hgR := hR.lt
  have h0 := h.below hB0
  rw [zero_lit] at hw0
  obtain ⟨Ap, cp, rfl, hp, hpc, hpm⟩ := h0.p
  obtain ⟨np, hnp⟩ : ∃ n, n = x.p.length := ⟨_, rfl⟩
  rw [← hnp] at hw0 hA hp hpc h h0 ⊢
  have HY := Lib.hid hY
  have HM := Lib.hid fun W (hb : Below w0.heap.size w0 W) => stMay_any x (.slice Ap np cp) C D W (h0.below hb)
  have H0 := Lib.hid h0
  have HP := Lib.hid hp
  have HA := Lib.hid hA
  have HR := Lib.hid hR
  have HNP := Lib.hid hnp
  clear hY h0 h hp hA hR hnp
  go_enter Tryz.func55, Tryz.ntmps55
  go_upto_region 1 with (fail)
  rw [← hw0]
  clear hw0
  go_wp2_with (first
    | (refine wpList_load_rec rfl _ _ rfl w.heap.size rfl _ 24 stateT HA.out rfl ?_)
    | fail)
  refine (HM.out _ (Below.refl _ _)).mono ?_; rintro e w1 ⟨rfl, hb1⟩
  have G1 := hb1
  have B1 := btr hB0 G1
  clear hb1
  cases hm : mayS x
  · have HY2 : Hid (Y = (zeroS, 1)) := Lib.hid (by rw [← HY.out]; unfold toS; rw [hm]; simp)
    have hF := (HR.out.below G1).putAll (stC zeroS (.slice none 0 0) (.slice none 0 0) (.slice none 0 0)) rfl
    have hFB := below_setCells (Nat.le_succ w.heap.size) (stC zeroS (.slice none 0 0) (.slice none 0 0) (.slice none 0 0)) 0 _ (B1)
    go_wp2_with (first
      | (refine wpList_load_rec rfl _ _ rfl (w.heap.size + 1) rfl _ 24 stateT (HR.out.below G1) rfl ?_)
      | (refine wpList_store_rec rfl _ _ _ rfl (w.heap.size + 1) (stC zeroS (.slice none 0 0) (.slice none 0 0) (.slice none 0 0)) _ rfl rfl 24 stateT (HR.out.below G1) rfl rfl zero_one ?_)
      | fail)
    refine bodyPost_ret (result_rec rfl rfl rfl stateT hF rfl) rfl ?_
    rw [HY2.out]
    exact ⟨_, _, _, rfl, zero_own _ _, hFB⟩
  · have hfew := mayS_few hm
    have hnp3 : np ≤ 1000 := by rw [HNP.out]; exact hfew.1
    have HFEW := Lib.hid hfew
    clear hfew
    go_wp2_with fail
    refine (stmay_any _ 2 _ [u, v] _ (by omega) (sl_new (w := w1) (t := 3) (ints [u, v]) rfl rfl)).mono ?_; rintro e w' ⟨rfl, rfl⟩
    have G2 := bal G1 (.cells (ints [u, v]).toArray 3)
    have B2 := bal B1 (.cells (ints [u, v]).toArray 3)
    obtain ⟨w2, hw2⟩ : ∃ w2, w2 = w1.alloc (.cells (ints [u, v]).toArray 3) := ⟨_, rfl⟩
    rw [← hw2] at G2 B2 ⊢
    clear hw2
    cases hf : [u, v].all fixB
    · have HY2 : Hid (Y = (zeroS, 1)) := Lib.hid (by rw [← HY.out]; unfold toS; rw [hm, hf]; simp)
      have hF := (HR.out.below G2).putAll (stC zeroS (.slice none 0 0) (.slice none 0 0) (.slice none 0 0)) rfl
      have hFB := below_setCells (Nat.le_succ w.heap.size) (stC zeroS (.slice none 0 0) (.slice none 0 0) (.slice none 0 0)) 0 _ (B2)
      go_wp2_with (first
        | (refine wpList_load_rec rfl _ _ rfl (w.heap.size + 1) rfl _ 24 stateT (HR.out.below G2) rfl ?_)
        | (refine wpList_store_rec rfl _ _ _ rfl (w.heap.size + 1) (stC zeroS (.slice none 0 0) (.slice none 0 0) (.slice none 0 0)) _ rfl rfl 24 stateT (HR.out.below G2) rfl rfl zero_one ?_)
        | fail)
      refine bodyPost_ret (result_rec rfl rfl rfl stateT hF rfl) rfl ?_
      rw [HY2.out]
      exact ⟨_, _, _, rfl, zero_own _ _, hFB⟩
    · obtain ⟨⟨px, py, pe⟩, hpt⟩ : ∃ p, pointS x.m x.p u v d = p := ⟨_, rfl⟩
      have HPt := Lib.hid fun W (hb : Below w0.heap.size w0 W) => point_any x (.slice Ap np cp) C D u v d W (H0.out.below hb) HFEW.out
      rw [hpt] at HPt
      unfold vP at HPt
      simp only at HPt
      have HY3 : Hid (Y = if pe ≠ 0 then (zeroS, pe) else if ((fun a b => onL x.p ⟨2, a, b, 0, 0⟩) px py).2 ≠ 0 then (zeroS, ((fun a b => onL x.p ⟨2, a, b, 0, 0⟩) px py).2) else ({ x with p := ((fun a b => onL x.p ⟨2, a, b, 0, 0⟩) px py).1 }, 0)) := Lib.hid (by rw [← HY.out]; unfold toS; rw [hm, hf, hpt]; simp)
      clear hpt HY hf hm
      have A2 := HA.out.below G2
      go_wp2_with (first
        | (refine wpList_load_rec rfl _ _ rfl w.heap.size rfl _ 24 stateT A2 rfl ?_)
        | fail)
      refine (HPt.out _ G2).mono ?_; rintro e w3 ⟨rfl, hb3⟩
      have G3 := btr G2 hb3
      have B3 := btr B2 hb3
      clear hb3 A2 HPt
      by_cases hpe : pe = 0
      · subst hpe
        have HY4 : Hid (Y = if ((fun a b => onL x.p ⟨2, a, b, 0, 0⟩) px py).2 ≠ 0 then (zeroS, ((fun a b => onL x.p ⟨2, a, b, 0, 0⟩) px py).2) else ({ x with p := ((fun a b => onL x.p ⟨2, a, b, 0, 0⟩) px py).1 }, 0)) := Lib.hid (by rw [HY3.out]; simp)
        obtain ⟨E, hE⟩ : ∃ E, (fun a b => onL x.p ⟨2, a, b, 0, 0⟩) px py = E := ⟨_, rfl⟩
        have hlen : E.1.length ≤ 300 := by rw [← hE]; exact sonL_le _ _
        rw [hE] at HY4
        have HE := Lib.hid hE
        have c6 := (HA.out.below G3).c 6 _ rfl
        clear hE HY3
        go_wp2_with fail
        refine (Line_any Ap np cp px py x.p E _ (by omega) (HP.out.below G3) HE.out).mono ?_; rintro e w4 ⟨A4', c4', rfl, ho4, hb4⟩
        have G4 := btr G3 hb4
        have B4 := btr B3 hb4
        have A4 := HA.out.below G4
        have s4 := own_sl ho4
        obtain ⟨l, le⟩ := E
        simp only at s4 hlen HY4 ho4 ⊢
        obtain ⟨nl, hnl⟩ : ∃ n, n = l.length := ⟨_, rfl⟩
        rw [← hnl] at s4 hlen ⊢
        have HS4 := Lib.hid s4
        have HWN := Lib.hid fun (he : le ≠ 0) W (hb : Below w0.heap.size w0 W) => with_no x (.slice Ap np cp) C D A4' nl c4' le W (H0.out.below hb) he
        have HWO := Lib.hid fun W (hb : Below w4.heap.size w4 W) => with_ok x (.slice Ap np cp) C D A4' nl c4' l W (H0.out.below (btr G4 hb)) HFEW.out (HS4.out.below hb) (by omega)
        clear c6 hb4 s4 hnl ho4
        go_wp2_with (first
          | (refine wpList_load_rec rfl _ _ rfl w.heap.size rfl _ 24 stateT A4 rfl ?_)
          | fail)
        by_cases hle : le = 0
        · subst hle
          have HY2 : Hid (Y = ({ x with p := l }, 0)) := Lib.hid (by rw [HY4.out]; simp)
          refine (HWO.out _ (Below.refl _ _)).mono ?_; rintro e w5 ⟨P5, C5, D5, rfl, ho5, hb5⟩
          have G5 := btr G4 hb5
          have B5 := btr B4 hb5
          have R5 := HR.out.below G5
          have hone := ho5.at.one
          have ho6 := ho5.mono (show w0.heap.size ≤ w4.heap.size from G4.size)
          have hF := R5.putAll (stC { x with p := l } P5 C5 D5) rfl
          have hFB := below_setCells (Nat.le_succ w.heap.size) (stC { x with p := l } P5 C5 D5) 0 _ B5
          go_wp2_with (first
            | (refine wpList_store_rec rfl _ _ _ rfl (w.heap.size + 1) (stC { x with p := l } P5 C5 D5) _ rfl rfl 24 stateT R5 rfl rfl hone ?_)
            | fail)
          refine bodyPost_ret (result_rec rfl rfl rfl stateT hF rfl) rfl ?_
          rw [HY2.out]
          refine ⟨P5, C5, D5, rfl, ?_, hFB⟩
          exact (ho6.setCells hgR _ _).mono (Nat.le_of_lt hgA)
        · have HY2 : Hid (Y = (zeroS, le)) := Lib.hid (by rw [HY4.out]; simp [hle])
          refine (HWN.out hle _ G4).mono ?_; rintro e w5 ⟨rfl, hb5⟩
          have G5 := btr G4 hb5
          have B5 := btr B4 hb5
          clear hle
          have hF := (HR.out.below G5).putAll (stC zeroS (.slice none 0 0) (.slice none 0 0) (.slice none 0 0)) rfl
          have hFB := below_setCells (Nat.le_succ w.heap.size) (stC zeroS (.slice none 0 0) (.slice none 0 0) (.slice none 0 0)) 0 _ (B5)
          go_wp2_with (first
            | (refine wpList_load_rec rfl _ _ rfl (w.heap.size + 1) rfl _ 24 stateT (HR.out.below G5) rfl ?_)
            | (refine wpList_store_rec rfl _ _ _ rfl (w.heap.size + 1) (stC zeroS (.slice none 0 0) (.slice none 0 0) (.slice none 0 0)) _ rfl rfl 24 stateT (HR.out.below G5) rfl rfl zero_one ?_)
            | fail)
          refine bodyPost_ret (result_rec rfl rfl rfl stateT hF rfl) rfl ?_
          rw [HY2.out]
          exact ⟨_, _, _, rfl, zero_own _ _, hFB⟩
      · have HY2 : Hid (Y = (zeroS, pe)) := Lib.hid (by rw [HY3.out]; simp [hpe])
        have he0 : (pe == 0) = false := by simp [hpe]
        have hF := (HR.out.below G3).putAll (stC zeroS (.slice none 0 0) (.slice none 0 0) (.slice none 0 0)) rfl
        have hFB := below_setCells (Nat.le_succ w.heap.size) (stC zeroS (.slice none 0 0) (.slice none 0 0) (.slice none 0 0)) 0 _ (B3)
        go_wp2_with (first
          | (refine wpList_load_rec rfl _ _ rfl (w.heap.size + 1) rfl _ 24 stateT (HR.out.below G3) rfl ?_)
          | (refine wpList_store_rec rfl _ _ _ rfl (w.heap.size + 1) (stC zeroS (.slice none 0 0) (.slice none 0 0) (.slice none 0 0)) _ rfl rfl 24 stateT (HR.out.below G3) rfl rfl zero_one ?_)
          | fail)
        refine bodyPost_ret (result_rec rfl rfl rfl stateT hF rfl) rfl ?_
        rw [HY2.out]
        exact ⟨_, _, _, rfl, zero_own _ _, hFB⟩
end Go.Proofs.YtdfkbbcoolgfiaaGreat
