/- state.base, point. -/
import Derived.Test.YtaadajadeemndaaSt6
import Derived.Test.YtaadajadeemndaaAllP
namespace Go.Proofs.Ytaadajadeemndaa
open Go.RowKit Go.BigFrame

def baseL (l : List Sg) : Int × Int × Int := if (ptL l).2.2 then ((ptL l).1, (ptL l).2.1, 0) else (0, 0, 13)
def pointS (m : Mt) (l : List Sg) (u v : Int) (d : Bool) : Int × Int × Int :=
  if d then (if (baseL l).2.2 ≠ 0 then (0, 0, (baseL l).2.2) else if (vectorM m u v).2.2 ≠ 0 then (0, 0, (vectorM m u v).2.2) else
    if inB ((vectorM m u v).1 + (baseL l).1) (-8191) 8191 && inB ((vectorM m u v).2.1 + (baseL l).2.1) (-8191) 8191 then ((vectorM m u v).1 + (baseL l).1, (vectorM m u v).2.1 + (baseL l).2.1, 0) else (0, 0, 2))
  else pointM m u v
set_option maxRecDepth 100000 in
set_option maxHeartbeats 4000000 in
theorem base_any (x : St) (P C D : Value) (w : World) (h : StAt w x P C D) (hf : stFew x) : Calls Try.prog 45 #[.agg (stC x P C D).toArray] w
    fun r w' => r = .returned (vP (baseL x.p)) ∧ Below w.heap.size w w' := by
  obtain ⟨w0, hw0⟩ : ∃ w0 : World, w0 = w.alloc (.cells (stC x P C D).toArray 34) := ⟨_, rfl⟩
  have hB0 : Below w.heap.size w w0 := by rw [hw0]; exact bal (Below.refl _ _) _
  have hA : BC w0 w.heap.size (stC x P C D) := by rw [hw0]; exact BC.new (stC x P C D) 34 rfl
  have h0 := h.below hB0
  obtain ⟨Ap, cp, rfl, hp, hpc, hpm⟩ := h0.p
  obtain ⟨np, hnp⟩ : ∃ n, n = x.p.length := ⟨_, rfl⟩
  obtain ⟨⟨px, py, ok⟩, hpt⟩ : ∃ p, ptL x.p = p := ⟨_, rfl⟩
  have hfp := hf.1
  rw [← hnp] at hA hw0 hp hfp ⊢
  have HX := Lib.hid fun W (hb : Below w0.heap.size w0 W) => Point_any Ap np cp x.p (px, py, ok) W (by omega) (hp.below hb) hpt
  unfold baseL
  rw [hpt]
  simp only
  have a6 := hA.c 6 _ rfl
  clear hnp hpt hp h0 h
  go_enter Try.func45, Try.ntmps45
  go_upto_region 1 with (fail)
  rw [← hw0]
  clear hw0
  go_wp2_with fail
  refine (HX.out _ (Below.refl _ _)).mono ?_; rintro e w1 ⟨rfl, hb1⟩
  have B1 := btr hB0 hb1
  clear a6 hA hb1
  cases ok
  · go_wp2_with fail
    go_ret3
    exact ⟨rfl, B1⟩
  · go_wp2_with fail
    go_ret3
    exact ⟨rfl, B1⟩
theorem base_bd (l : List Sg) : -8191 ≤ (baseL l).1 ∧ (baseL l).1 ≤ 8191 ∧ -8191 ≤ (baseL l).2.1 ∧ (baseL l).2.1 ≤ 8191 := by
  unfold baseL
  split
  · rename_i h
    obtain ⟨h1, h2⟩ := ptL_co h
    rw [co_iff'] at h1 h2
    exact ⟨h1.1, h1.2, h2.1, h2.2⟩
  · refine ⟨?_, ?_, ?_, ?_⟩ <;> simp only <;> omega
theorem nearP_bd (x y k : Int) (hk : 0 ≤ k) : -k ≤ (nearP x y k).1 ∧ (nearP x y k).1 ≤ k ∧ -k ≤ (nearP x y k).2.1 ∧ (nearP x y k).2.1 ≤ k := by
  unfold nearP
  split
  · refine ⟨?_, ?_, ?_, ?_⟩ <;> simp only <;> omega
  · refine ⟨?_, ?_, ?_, ?_⟩ <;> simp only <;> omega
theorem vector_bd (m : Mt) (u v : Int) : -16382 ≤ (vectorM m u v).1 ∧ (vectorM m u v).1 ≤ 16382 ∧ -16382 ≤ (vectorM m u v).2.1 ∧ (vectorM m u v).2.1 ≤ 16382 := by
  unfold vectorM
  split
  · exact nearP_bd _ _ _ (by omega)
  · refine ⟨?_, ?_, ?_, ?_⟩ <;> simp only <;> omega
set_option maxRecDepth 100000 in
set_option maxHeartbeats 4000000 in
theorem point_any (x : St) (P C D : Value) (u v : Int) (d : Bool) (w : World) (h : StAt w x P C D) (hf : stFew x) : Calls Try.prog 54 #[.agg (stC x P C D).toArray, .int .i64 u, .int .i64 v, .bool d] w
    fun r w' => r = .returned (vP (pointS x.m x.p u v d)) ∧ Below w.heap.size w w' := by
  obtain ⟨w0, hw0⟩ : ∃ w0 : World, w0 = w.alloc (.cells (stC x P C D).toArray 34) := ⟨_, rfl⟩
  have hB0 : Below w.heap.size w w0 := by rw [hw0]; exact bal (Below.refl _ _) _
  have hA : BC w0 w.heap.size (stC x P C D) := by rw [hw0]; exact BC.new (stC x P C D) 34 rfl
  have h0 := h.below hB0
  have HP := Lib.hid fun W => matPoint_any x.m u v W
  have HV := Lib.hid fun W => matVector_any x.m u v W
  have HB := Lib.hid fun W (hb : Below w0.heap.size w0 W) => base_any x P C D W (h0.below hb) hf
  have hbd := base_bd x.p
  have hvd := vector_bd x.m u v
  unfold pointS
  obtain ⟨⟨vx, vy, ve⟩, hv⟩ : ∃ p, vectorM x.m u v = p := ⟨_, rfl⟩
  obtain ⟨⟨bx, by0, be⟩, hb0⟩ : ∃ p, baseL x.p = p := ⟨_, rfl⟩
  obtain ⟨⟨qx, qy, qe⟩, hq⟩ : ∃ p, pointM x.m u v = p := ⟨_, rfl⟩
  rw [hv] at HV hvd ⊢
  rw [hb0] at HB hbd ⊢
  rw [hq] at HP ⊢
  unfold mtv vP at HP HV
  unfold vP at HB
  simp only at HP HV HB hbd hvd ⊢
  obtain ⟨v1, v2, v3, v4⟩ := hvd
  obtain ⟨b1, b2, b3, b4⟩ := hbd
  have e1 : IntKind.i64.wrap (vx + bx) = vx + bx := IntWalk.i64_in _ (by omega)
  have e2 : IntKind.i64.wrap (vy + by0) = vy + by0 := IntWalk.i64_in _ (by omega)
  clear hv hb0 hq h0 h
  have c0 := hA.c 0 _ rfl
  have c1 := hA.c 1 _ rfl
  have c2 := hA.c 2 _ rfl
  have c3 := hA.c 3 _ rfl
  have c4 := hA.c 4 _ rfl
  have c5 := hA.c 5 _ rfl
  go_enter Try.func54, Try.ntmps54
  go_upto_region 1 with (fail)
  rw [← hw0]
  clear hw0
  cases d
  · go_wp2_with fail
    refine (HP.out _).mono ?_; rintro e w1 ⟨rfl, hb1⟩
    go_wp2_with fail
    go_ret3
    exact ⟨rfl, btr hB0 hb1⟩
  · go_wp2_with (first
      | (refine wpList_load_rec rfl _ _ rfl w.heap.size rfl _ 24 stT hA rfl ?_)
      | fail)
    refine (HB.out _ (Below.refl _ _)).mono ?_; rintro e w1 ⟨rfl, hb1⟩
    have B1 := btr hB0 hb1
    have hA1 := hA.below hb1
    clear c0 c1 c2 c3 c4 c5 hA
    by_cases hbe : be = 0
    · subst hbe
      have c0 := hA1.c 0 _ rfl
      have c1 := hA1.c 1 _ rfl
      have c2 := hA1.c 2 _ rfl
      have c3 := hA1.c 3 _ rfl
      have c4 := hA1.c 4 _ rfl
      have c5 := hA1.c 5 _ rfl
      go_wp2_with fail
      refine (HV.out _).mono ?_; rintro e w2 ⟨rfl, hb2⟩
      have B2 := btr B1 hb2
      clear c0 c1 c2 c3 c4 c5 hA1 hb1 hb2 B1
      by_cases hve : ve = 0
      · subst hve
        go_wp2_with fail
        refine (stWithin_any _ _ _ _).mono ?_; rintro e w' ⟨rfl, rfl⟩
        obtain ⟨i1, hi1⟩ : ∃ q, inB (vx + bx) (-8191) 8191 = q := ⟨_, rfl⟩
        rw [hi1]
        cases i1
        · go_wp2_with fail
          go_ret3
          refine ⟨?_, B2⟩
          simp [vP]
        · go_wp2_with fail
          refine (stWithin_any _ _ _ _).mono ?_; rintro e w' ⟨rfl, rfl⟩
          obtain ⟨i2, hi2⟩ : ∃ q, inB (vy + by0) (-8191) 8191 = q := ⟨_, rfl⟩
          rw [hi2]
          cases i2
          · go_wp2_with fail
            go_ret3
            refine ⟨?_, B2⟩
            simp [vP]
          · go_wp2_with fail
            go_ret3
            refine ⟨?_, B2⟩
            simp [vP]
      · have he0 : (ve == 0) = false := by simp [hve]
        go_wp2_with fail
        go_ret3
        refine ⟨?_, B2⟩
        simp [vP]
    · have he0 : (be == 0) = false := by simp [hbe]
      go_wp2_with fail
      go_ret3
      refine ⟨?_, B1⟩
      simp [vP]
end Go.Proofs.Ytaadajadeemndaa
