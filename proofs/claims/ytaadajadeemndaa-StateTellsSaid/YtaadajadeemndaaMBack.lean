/- The reference's Back, Here; its New; New of any number. -/
import Derived.Test.YtaadajadeemndaaDivR
import Derived.Test.YtaadajadeemndaaStR2
import Derived.Test.YtaadajadeemndaaThereP
namespace Go.Proofs.Ytaadajadeemndaa
open Go.RowKit Go.BigFrame

theorem rat_mdv (a d : Int) (hd : d ≠ 0) : ratR a d = if (mdv a d).2 && fixB (mdv a d).1 then (mdv a d).1 else 1073741824 := by
  obtain ⟨dd, hdd⟩ : ∃ dd, d.natAbs = dd := ⟨_, rfl⟩
  have hdp : 0 < dd := by omega
  obtain ⟨n, hn⟩ : ∃ n, a.natAbs * 65536 = n := ⟨_, rfl⟩
  obtain ⟨q, hq⟩ : ∃ q, n / dd = q := ⟨_, rfl⟩
  obtain ⟨r, hr⟩ : ∃ r, n % dd = r := ⟨_, rfl⟩
  have hF : ∀ z : Nat, 4611686018427387904 ≤ z → fixB (z : Int) = false ∧ fixB (-(z : Int)) = false := fun z hz => by
    constructor
    · simp [fixB]; omega
    · simp [fixB]; omega
  have hmd : mdv a d = if d = 0 ∨ dd ≤ n / 18446744073709551616 then (0, false) else if upB q r dd then (if q + 1 = 18446744073709551616 then (0, false) else sgnQ (q + 1) (decide (a < 0) != decide (d < 0))) else sgnQ q (decide (a < 0) != decide (d < 0)) := by
    unfold mdv; rw [hn, hdd, hq, hr]
  have hrm : rmdv a d = if q < 4611686018427387904 then ((if sgn3 a * sgn3 d < 0 then -1 else 1) * ((q : Int) + if upB q r dd then 1 else 0), true) else (0, false) := by
    unfold rmdv; rw [if_neg hd, hn, hdd, hq, hr]
  by_cases h1 : dd ≤ n / 18446744073709551616
  · have h2 : 18446744073709551616 ≤ q := by
      rw [← hq, Nat.le_div_iff_mul_le hdp]
      have h3 := Nat.mul_le_mul_left 18446744073709551616 h1
      have h4 := Nat.div_mul_le_self n 18446744073709551616
      omega
    rw [if_pos (.inr h1)] at hmd
    rw [if_neg (by omega)] at hrm
    unfold ratR
    rw [hmd, hrm]
  · rw [if_neg (by omega)] at hmd
    by_cases h2 : q < 4611686018427387904
    · rw [if_pos h2] at hrm
      have hs : ∀ u : Nat, u ≤ 4611686018427387904 → (a = 0 → u = 0) → sgnQ u (decide (a < 0) != decide (d < 0)) = ((if sgn3 a * sgn3 d < 0 then -1 else 1) * (u : Int), true) := fun u hu h0 => by
        unfold sgnQ sgn3
        by_cases g1 : a < 0
        · by_cases g2 : d < 0
          · simp [g1, g2]; omega
          · have g3 : 0 < d := by omega
            simp [g1, g2, g3]; omega
        · by_cases g2 : d < 0
          · by_cases g3 : 0 < a
            · simp [g1, g2, g3]; omega
            · have : u = 0 := h0 (by omega)
              subst this
              simp [g1, g2, g3]
          · have g4 : 0 < d := by omega
            by_cases g3 : 0 < a
            · simp [g1, g2, g3, g4]; omega
            · simp [g1, g2, g3, g4]; omega
      have h00 : a = 0 → q = 0 ∧ upB q r dd = false := fun ha => by
        have hn0 : n = 0 := by rw [← hn, ha]; rfl
        have hq0 : q = 0 := by rw [← hq, hn0]; exact Nat.zero_div _
        have hr0 : r = 0 := by rw [← hr, hn0]; exact Nat.zero_mod _
        refine ⟨hq0, ?_⟩
        unfold upB
        rw [hr0, hq0]
        simp <;> omega
      have hsame : mdv a d = rmdv a d := by
        cases hu : upB q r dd
        · rw [hu, if_neg (by simp), hs q (by omega) (fun ha => (h00 ha).1)] at hmd
          rw [hu] at hrm
          rw [hmd, hrm]
          simp
        · rw [hu, if_pos rfl, if_neg (by omega), hs (q + 1) (by omega) (fun ha => by have := (h00 ha).2; rw [hu] at this; cases this)] at hmd
          rw [hu] at hrm
          rw [hmd, hrm]
          simp
      unfold ratR
      rw [hsame]
    · rw [if_neg h2] at hrm
      have hs : ∀ u : Nat, 4611686018427387904 ≤ u → ((sgnQ u (decide (a < 0) != decide (d < 0))).2 && fixB (sgnQ u (decide (a < 0) != decide (d < 0))).1) = false := fun u hu => by
        obtain ⟨f1, f2⟩ := hF u hu
        cases (decide (a < 0) != decide (d < 0))
        · by_cases g : u < 9223372036854775808 <;> simp [sgnQ, g, f1]
        · by_cases g : u ≤ 9223372036854775808 <;> simp [sgnQ, g, f2]
      have hno : ((mdv a d).2 && fixB (mdv a d).1) = false := by
        cases hu : upB q r dd
        · rw [hu, if_neg (by simp)] at hmd
          rw [hmd]; exact hs q (by omega)
        · rw [hu, if_pos rfl] at hmd
          by_cases g : q + 1 = 18446744073709551616
          · rw [if_pos g] at hmd; rw [hmd]; rfl
          · rw [if_neg g] at hmd; rw [hmd]; exact hs (q + 1) (by omega)
      unfold ratR
      rw [hno, hrm]
      rfl
theorem near_rat (u v : Int × Bool) : nearP (if u.2 && fixB u.1 then u.1 else 1073741824) (if v.2 && fixB v.1 then v.1 else 1073741824) 1073741823 = if u.2 && v.2 then nearP u.1 v.1 1073741823 else (0, 0, 2) := by
  obtain ⟨u, p⟩ := u
  obtain ⟨v, q⟩ := v
  have hB : ∀ z, fixB z = decide (-1073741823 ≤ z ∧ z ≤ 1073741823) := fun z => by simp [fixB]
  simp only [hB]
  cases p <;> cases q <;> by_cases h1 : -1073741823 ≤ u ∧ u ≤ 1073741823 <;> by_cases h2 : -1073741823 ≤ v ∧ v ≤ 1073741823 <;> simp [h1, h2, nearP] <;> omega
theorem back_rat (m : Mt) (px py : Int) (h1 : mtB m = true) (h2 : inB px (-8191) 8191 = true) (h3 : inB py (-8191) 8191 = true) (h4 : detM m ≠ 0) :
    backM m px py = nearP (ratR (m.d * (px * 65536 - m.e) - m.c * (py * 65536 - m.f)) (detM m)) (ratR (m.a * (py * 65536 - m.f) - m.b * (px * 65536 - m.e)) (detM m)) 1073741823 := by
  have hn : nearP px py 8191 = (px, py, 0) := by
    unfold nearP
    rw [if_neg]
    simp [inB] at h2 h3
    omega
  unfold backM
  rw [if_neg (by simp [h1]), if_neg (by rw [hn]; simp), if_neg h4, rat_mdv _ _ h4, rat_mdv _ _ h4, near_rat]
theorem back_no (m : Mt) (px py : Int) (h1 : mtB m = true) (h : (inB px (-8191) 8191 && inB py (-8191) 8191) = false) : backM m px py = (0, 0, 1) := by
  have hn : nearP px py 8191 = (0, 0, 2) := by
    unfold nearP
    rw [if_pos]
    simp [inB] at h
    omega
  unfold backM
  rw [if_neg (by simp [h1]), if_pos (by rw [hn]; simp)]
set_option maxRecDepth 100000 in
set_option maxHeartbeats 1000000 in
theorem rDet_any (m : Mt) (w : World) (h : mtB m = true) : Calls Try.prog 104 #[mtv m] w fun e w' => e = .returned (.int .i64 (detM m)) ∧ Below w.heap.size w w' := by
  obtain ⟨f1, f2, f3, f4, _, _⟩ := mtB_fix h
  have p1 := mul_fix f1 f4
  have p2 := mul_fix f2 f3
  unfold detM mtv
  have e1 : IntKind.i64.wrap (m.a * m.d) = m.a * m.d := IntWalk.i64_in _ (by omega)
  have e2 : IntKind.i64.wrap (m.b * m.c) = m.b * m.c := IntWalk.i64_in _ (by omega)
  have e3 : IntKind.i64.wrap (m.a * m.d - m.b * m.c) = m.a * m.d - m.b * m.c := IntWalk.i64_in _ (by omega)
  clear f1 f2 f3 f4 p1 p2 h
  go_enter Try.func104, Try.ntmps104
  go_wp2
  go_ret
  exact ⟨rfl, bal (Below.refl _ _) _⟩
set_option maxRecDepth 100000 in
set_option maxHeartbeats 4000000 in
theorem rBackM_any (m : Mt) (px py : Int) (R : Int × Int × Int) (w : World) (hR : backM m px py = R) : Calls Try.prog 66 #[mtv m, .int .i64 px, .int .i64 py] w fun e w' => e = .returned (vP R) ∧ Below w.heap.size w w' := by
  obtain ⟨w0, hw0⟩ : ∃ w0 : World, w0 = w.alloc (.cells (mtC m).toArray 25) := ⟨_, rfl⟩
  have hB0 : Below w.heap.size w w0 := by rw [hw0]; exact bal (Below.refl _ _) _
  have hA : BC w0 w.heap.size (mtC m) := by rw [hw0]; exact BC.new (mtC m) 25 rfl
  have HM := Lib.hid fun W => rMay_any m W
  have HD := Lib.hid fun (h : mtB m = true) W => rDet_any m W h
  unfold mtv at HM HD ⊢
  unfold mtC at hw0
  have HR := Lib.hid hR
  clear hR
  have a0 := hA.c 0 _ rfl
  have a1 := hA.c 1 _ rfl
  have a2 := hA.c 2 _ rfl
  have a3 := hA.c 3 _ rfl
  have a4 := hA.c 4 _ rfl
  have a5 := hA.c 5 _ rfl
  go_enter Try.func66, Try.ntmps66
  go_upto_region 1 with (fail)
  rw [← hw0]
  clear hw0
  go_wp2_with fail
  refine (HM.out _).mono ?_; rintro e w1 ⟨rfl, hb1⟩
  have B1 := btr hB0 hb1
  have hA1 := hA.below hb1
  clear a0 a1 a2 a3 a4 a5 hb1 hA hB0
  cases hm : mtB m
  · have HR2 := Lib.hid (show R = (0, 0, 1) by rw [← HR.out]; unfold backM; rw [hm]; simp)
    go_wp2_with fail
    go_ret3
    rw [HR2.out]
    exact ⟨rfl, B1⟩
  · go_wp2_with fail
    refine (rIsCoord_any px _).mono ?_; rintro e w' ⟨rfl, rfl⟩
    cases hc1 : inB px (-8191) 8191
    · have HR2 := Lib.hid (show R = (0, 0, 1) by rw [← HR.out, back_no m px py hm (by rw [hc1]; rfl)])
      go_wp2_with fail
      go_ret3
      rw [HR2.out]
      exact ⟨rfl, B1⟩
    · go_wp2_with fail
      refine (rIsCoord_any py _).mono ?_; rintro e w' ⟨rfl, rfl⟩
      cases hc2 : inB py (-8191) 8191
      · have HR2 := Lib.hid (show R = (0, 0, 1) by rw [← HR.out, back_no m px py hm (by rw [hc1, hc2]; rfl)])
        go_wp2_with fail
        go_ret3
        rw [HR2.out]
        exact ⟨rfl, B1⟩
      · have a0 := hA1.c 0 _ rfl
        have a1 := hA1.c 1 _ rfl
        have a2 := hA1.c 2 _ rfl
        have a3 := hA1.c 3 _ rfl
        have a4 := hA1.c 4 _ rfl
        have a5 := hA1.c 5 _ rfl
        have HBR := Lib.hid (back_rat m px py hm hc1 hc2)
        have HBZ := Lib.hid (show detM m = 0 → backM m px py = (0, 0, 14) from fun hz => by
          have hn : nearP px py 8191 = (px, py, 0) := by
            unfold nearP
            rw [if_neg]
            simp [inB] at hc1 hc2
            omega
          unfold backM
          rw [if_neg (by simp [hm]), if_neg (by rw [hn]; simp), if_pos hz])
        have hdb := det_bd hm
        obtain ⟨f1, f2, f3, f4, f5, f6⟩ := mtB_fix hm
        rw [fixB_iff] at f1 f2 f3 f4 f5 f6
        have hpx : -8191 ≤ px ∧ px ≤ 8191 := by simpa [inB] using hc1
        have hpy : -8191 ≤ py ∧ py ≤ 8191 := by simpa [inB] using hc2
        have HDm := Lib.hid (HD.out hm)
        obtain ⟨D, hD⟩ : ∃ D, detM m = D := ⟨_, rfl⟩
        rw [hD] at HDm HBR HBZ hdb
        obtain ⟨p, hp⟩ : ∃ p, px * 65536 - m.e = p := ⟨_, rfl⟩
        obtain ⟨q, hq⟩ : ∃ q, py * 65536 - m.f = q := ⟨_, rfl⟩
        rw [hp, hq] at HBR
        have hp2 : -1610612736 ≤ p ∧ p ≤ 1610612736 := by omega
        have hq2 : -1610612736 ≤ q ∧ q ≤ 1610612736 := by omega
        have g1 := mulI_bd (a := m.d) (b := p) (A := 1073741823) (B := 1610612736) (by omega) (by omega) hp2
        have g2 := mulI_bd (a := m.c) (b := q) (A := 1073741823) (B := 1610612736) (by omega) (by omega) hq2
        have g3 := mulI_bd (a := m.a) (b := q) (A := 1073741823) (B := 1610612736) (by omega) (by omega) hq2
        have g4 := mulI_bd (a := m.b) (b := p) (A := 1073741823) (B := 1610612736) (by omega) (by omega) hp2
        have e1 : IntKind.i64.wrap (m.d * p) = m.d * p := IntWalk.i64_in _ (by omega)
        have e2 : IntKind.i64.wrap (m.c * q) = m.c * q := IntWalk.i64_in _ (by omega)
        have e3 : IntKind.i64.wrap (m.a * q) = m.a * q := IntWalk.i64_in _ (by omega)
        have e4 : IntKind.i64.wrap (m.b * p) = m.b * p := IntWalk.i64_in _ (by omega)
        have e5 : IntKind.i64.wrap (m.d * p - m.c * q) = m.d * p - m.c * q := IntWalk.i64_in _ (by omega)
        have e6 : IntKind.i64.wrap (m.a * q - m.b * p) = m.a * q - m.b * p := IntWalk.i64_in _ (by omega)
        have e7 : IntKind.i64.wrap (px * 65536) = px * 65536 := IntWalk.i64_in _ (by omega)
        have e8 : IntKind.i64.wrap (py * 65536) = py * 65536 := IntWalk.i64_in _ (by omega)
        have e9 : IntKind.i64.wrap (px * 65536 - m.e) = p := by rw [← hp]; exact IntWalk.i64_in _ (by omega)
        have e10 : IntKind.i64.wrap (py * 65536 - m.f) = q := by rw [← hq]; exact IntWalk.i64_in _ (by omega)
        obtain ⟨u, hU⟩ : ∃ U, ratR (m.d * p - m.c * q) D = U := ⟨_, rfl⟩
        obtain ⟨v, hV⟩ : ∃ V, ratR (m.a * q - m.b * p) D = V := ⟨_, rfl⟩
        rw [hU, hV] at HBR
        have HU := Lib.hid fun W => rRatio_any (m.d * p - m.c * q) D u W (by omega) hdb hU
        have HV := Lib.hid fun W => rRatio_any (m.a * q - m.b * p) D v W (by omega) hdb hV
        have HNN := Lib.hid fun W => rTwo_big u v W
        unfold vP at HNN
        clear hU hV g1 g2 g3 g4 hp2 hq2 hp hq hD hm hc1 hc2 hpx hpy
        go_wp2_with fail
        refine (HDm.out _).mono ?_; rintro e w2 ⟨rfl, hb2⟩
        have B2 := btr B1 hb2
        have hA2 := hA1.below hb2
        clear a0 a1 a2 a3 a4 a5 hA1 hb2 B1
        have a0 := hA2.c 0 _ rfl
        have a1 := hA2.c 1 _ rfl
        have a2 := hA2.c 2 _ rfl
        have a3 := hA2.c 3 _ rfl
        have a4 := hA2.c 4 _ rfl
        have a5 := hA2.c 5 _ rfl
        by_cases hD0 : D = 0
        · have HR2 := Lib.hid (show R = (0, 0, 14) by rw [← HR.out]; exact HBZ.out hD0)
          subst hD0
          go_wp2_with fail
          go_ret3
          rw [HR2.out]
          exact ⟨rfl, B2⟩
        · have hD1 : (D == 0) = false := by simp [hD0]
          have HR4 := Lib.hid (show R = nearP u v 1073741823 by rw [← HR.out]; exact HBR.out hD0)
          clear HBR hD0
          go_wp2_with fail
          go_quiet (fail)
          go_wp2_with fail
          have hbq := bdrewN (Below.refl _ w2) nq
          have B3 := btr B2 hbq
          have hA3 := hA2.below hbq
          obtain ⟨w3, hw3⟩ : ∃ w3, w3 = w2.drewN nq := ⟨_, rfl⟩
          rw [← hw3] at B3 hA3 ⊢
          clear a0 a1 a2 a3 a4 a5 hA2 B2 hbq hw3
          have a0 := fun x : Grown w3 => x.cell (hA3.c 0 _ rfl) hA3.lt
          have a1 := fun x : Grown w3 => x.cell (hA3.c 1 _ rfl) hA3.lt
          have a2 := fun x : Grown w3 => x.cell (hA3.c 2 _ rfl) hA3.lt
          have a3 := fun x : Grown w3 => x.cell (hA3.c 3 _ rfl) hA3.lt
          have HNB : Hid (∀ W, Calls Try.prog 105 #[.int .i64 u, .int .i64 v, .int .i64 1073741823] W fun e w' => e = .returned (.tuple #[.int .i64 (nearP u v 1073741823).1, .int .i64 (nearP u v 1073741823).2.1, .int .i64 (nearP u v 1073741823).2.2]) ∧ Below W.heap.size W w') :=
            Lib.hid fun W => (HNN.out W).mono fun e w' h => ⟨h.1, h.2 ▸ Below.refl _ _⟩
          refine wp_region_grown (by kernel_rfl) (by kernel_rfl) ?_
          repeat (go_big_quiet_step (first
            | (go_at_call 106; with_reducible exact Calls.grown (HU.out _))
            | (go_at_call 106; with_reducible exact Calls.grown (HV.out _))
            | (go_at_call 105; with_reducible exact Calls.grown (HNB.out _))
            | fail))
          refine wpQuiet_nil ?_
          rintro _ ⟨y, rfl⟩
          obtain ⟨w4, hb4⟩ := y
          simp only
          have B4 := btr B3 hb4
          clear a0 a1 a2 a3 HU HV HNN HNB hb4
          go_wp2_with fail
          go_ret3
          rw [HR4.out]
          exact ⟨rfl, B4⟩
end Go.Proofs.Ytaadajadeemndaa

namespace Go.Proofs.Ytaadajadeemndaa
open Go.RowKit Go.BigFrame

set_option maxRecDepth 100000 in
set_option maxHeartbeats 4000000 in
theorem rHere_any (x : St) (P C D : Value) (R : Int × Int × Int) (w : World) (h : StAt w x P C D) (hf : stFew x) (hR : hereS x = R) : Calls Try.prog 32 #[.agg (stC x P C D).toArray] w
    fun r w' => r = .returned (vP R) ∧ Below w.heap.size w w' := by
  obtain ⟨w0, hw0⟩ : ∃ w0 : World, w0 = w.alloc (.cells (stC x P C D).toArray 34) := ⟨_, rfl⟩
  have hB0 : Below w.heap.size w w0 := by rw [hw0]; exact bal (Below.refl _ _) _
  have hA : BC w0 w.heap.size (stC x P C D) := by rw [hw0]; exact BC.new (stC x P C D) 34 rfl
  have h0 := h.below hB0
  have HM := Lib.hid fun W (hb : Below w0.heap.size w0 W) => rStMay_any x P C D W (h0.below hb) hf
  obtain ⟨Ap, cp, rfl, hp, hpc, hpm⟩ := h0.p
  obtain ⟨np, hnp⟩ : ∃ n, n = x.p.length := ⟨_, rfl⟩
  have hfp := hf.1
  rw [← hnp] at hA hw0 hp hfp h h0 HM ⊢
  obtain ⟨⟨px, py, ok⟩, hpt⟩ : ∃ p, ptL x.p = p := ⟨_, rfl⟩
  have HX := Lib.hid fun W (hb : Below w0.heap.size w0 W) => ref_Point_any Ap np cp x.p (px, py, ok) W (by omega) (hp.below hb) hpt
  have HPT := Lib.hid hpt
  have HA := Lib.hid hA
  have HR := Lib.hid hR
  clear hA h0 h hR hp hpt hnp
  go_enter Try.func32, Try.ntmps32
  go_upto_region 1 with (fail)
  rw [← hw0]
  clear hw0
  go_wp2_with (first
    | (refine wpList_load_rec rfl _ _ rfl w.heap.size rfl _ 24 stT HA.out rfl ?_)
    | fail)
  refine (HM.out _ (Below.refl _ _)).mono ?_; rintro e w1 ⟨rfl, hb1⟩
  have G1 := hb1
  have B1 := btr hB0 G1
  clear hb1
  cases hm : mayS x
  · have HR2 := Lib.hid (show R = (0, 0, 1) by rw [← HR.out]; unfold hereS; rw [hm]; simp)
    go_wp2_with fail
    go_ret3
    rw [HR2.out]
    exact ⟨rfl, B1⟩
  · have c6 := (HA.out.below G1).c 6 _ rfl
    go_wp2_with fail
    refine (HX.out _ G1).mono ?_; rintro e w2 ⟨rfl, hb2⟩
    have G2 := btr G1 hb2
    have B2 := btr B1 hb2
    clear hb2 c6
    cases ok
    · have HR2 := Lib.hid (show R = (0, 0, 13) by rw [← HR.out]; unfold hereS baseL; rw [hm, HPT.out]; simp)
      go_wp2_with fail
      go_ret3
      rw [HR2.out]
      exact ⟨rfl, B2⟩
    · have HR2 := Lib.hid (show R = backM x.m px py by rw [← HR.out]; unfold hereS baseL; rw [hm, HPT.out]; simp)
      have HK := Lib.hid fun W => rBackM_any x.m px py R W HR2.out.symm
      unfold mtv vP at HK
      have A2 := HA.out.below G2
      have c0 := A2.c 0 _ rfl
      have c1 := A2.c 1 _ rfl
      have c2 := A2.c 2 _ rfl
      have c3 := A2.c 3 _ rfl
      have c4 := A2.c 4 _ rfl
      have c5 := A2.c 5 _ rfl
      clear A2
      go_wp2_with fail
      refine (HK.out _).mono ?_; rintro e w3 ⟨rfl, hb3⟩
      go_wp2_with fail
      go_ret3
      exact ⟨rfl, btr B2 hb3⟩
end Go.Proofs.Ytaadajadeemndaa

namespace Go.Proofs.Ytaadajadeemndaa
open Go.RowKit Go.BigFrame

def newB (h : Int) : St × Int := if 1 ≤ h ∧ h ≤ 64 then (newS h, 0) else (zeroS, 1)
set_option maxRecDepth 100000 in
theorem matDevice_no (h : Int) (w : World) (hh : ¬ (1 ≤ h ∧ h ≤ 64)) : Calls Try.prog 37 #[.int .i64 h] w fun e w' => e = .returned (.tuple #[mtv zeroM, .int .i64 1]) ∧ Below w.heap.size w w' := by
  by_cases h1 : h < 1
  · have d1 : decide (h < 1) = true := decide_eq_true h1
    go_enter Try.func37, Try.ntmps37
    go_wp2_with fail
    exact bodyPost_ret (v := .tuple #[mtv zeroM, .int .i64 1]) (by simp [results, Try.results37, go_sem, mtv, zeroM]) rfl ⟨rfl, by repeat (first | exact bal (Below.refl _ _) _ | refine bset ?_ (by simp) _)⟩
  · have d1 : decide (h < 1) = false := decide_eq_false h1
    have d2 : decide (64 < h) = true := decide_eq_true (by omega)
    go_enter Try.func37, Try.ntmps37
    go_wp2_with fail
    exact bodyPost_ret (v := .tuple #[mtv zeroM, .int .i64 1]) (by simp [results, Try.results37, go_sem, mtv, zeroM]) rfl ⟨rfl, by repeat (first | exact bal (Below.refl _ _) _ | refine bset ?_ (by simp) _)⟩
set_option maxRecDepth 100000 in
set_option maxHeartbeats 4000000 in
theorem stNew_no (h : Int) (w : World) (hh : ¬ (1 ≤ h ∧ h ≤ 64)) : Calls Try.prog 9 #[.int .i64 h] w
    fun e w' => e = .returned (.tuple #[.agg (stC zeroS (.slice none 0 0) (.slice none 0 0) (.slice none 0 0)).toArray, .int .i64 1]) ∧ Below w.heap.size w w' := by
  have HD := Lib.hid fun W => matDevice_no h W hh
  unfold mtv at HD
  obtain ⟨w0, hw0⟩ : ∃ w0 : World, w0 = w.alloc (.cells (stC zeroS (.slice none 0 0) (.slice none 0 0) (.slice none 0 0)).toArray 34) := ⟨_, rfl⟩
  have hB0 : Below w.heap.size w w0 := by rw [hw0]; exact bal (Below.refl _ _) _
  have hS : BC w0 w.heap.size (stC zeroS (.slice none 0 0) (.slice none 0 0) (.slice none 0 0)) := by rw [hw0]; exact BC.new _ 34 rfl
  rw [zero_lit] at hw0
  clear hh
  go_enter Try.func9, Try.ntmps9
  go_upto_region 1 with (fail)
  rw [← hw0]
  clear hw0
  go_wp2_with fail
  refine (HD.out _).mono ?_; rintro e w1 ⟨rfl, hb1⟩
  have B2 : Below w.heap.size w (w1.alloc (.cells (mtC zeroM).toArray 25)) := bal (btr hB0 hb1) _
  have hS2 := hS.below (bal hb1 (.cells (mtC zeroM).toArray 25))
  have hF := hS2.putAll (stC zeroS (.slice none 0 0) (.slice none 0 0) (.slice none 0 0)) rfl
  have hFB := below_setCells (Nat.le_refl w.heap.size) (stC zeroS (.slice none 0 0) (.slice none 0 0) (.slice none 0 0)) 0 _ B2
  go_wp2_with (first
    | (refine wpList_load_rec rfl _ _ rfl w.heap.size rfl _ 24 stT hS2 rfl ?_)
    | (refine wpList_store_rec rfl _ _ _ rfl w.heap.size (stC zeroS (.slice none 0 0) (.slice none 0 0) (.slice none 0 0)) _ rfl rfl 24 stT hS2 rfl rfl zero_one ?_)
    | fail)
  refine bodyPost_ret (result_rec rfl rfl rfl stT hF rfl) rfl ?_
  exact ⟨rfl, hFB⟩
theorem stNew_all (h : Int) (w : World) : Calls Try.prog 9 #[.int .i64 h] w
    fun e w' => e = .returned (.tuple #[.agg (stC (newB h).1 (.slice none 0 0) (.slice none 0 0) (.slice none 0 0)).toArray, .int .i64 (newB h).2]) ∧ Below w.heap.size w w' := by
  unfold newB
  by_cases hh : 1 ≤ h ∧ h ≤ 64
  · rw [if_pos hh]; exact stNew_any h w hh.1 hh.2
  · rw [if_neg hh]; exact stNew_no h w hh
set_option maxRecDepth 100000 in
theorem rIsSide_any (v : Int) (w : World) : Calls Try.prog 63 #[.int .i64 v] w fun e w' => e = .returned (.bool (inB v 1 64)) ∧ w = w' := by
  have hs : (inB v 1 64) = (decide (v ≥ 1) && decide (v ≤ 64)) := rfl
  rw [hs]
  clear hs
  go_enter Try.func63, Try.ntmps63
  go_wp2
  all_goals
    go_ret
    refine ⟨?_, rfl⟩
    first | (simp_all; done) | (simp_all; omega)
set_option maxRecDepth 100000 in
theorem rDevice_any (h : Int) (w : World) (h1 : 1 ≤ h) (h2 : h ≤ 64) : Calls Try.prog 64 #[.int .i64 h] w fun e w' => e = .returned (mtv (devM h)) ∧ Below w.heap.size w w' := by
  have wr1 : wrap64 (16 * h) = 16 * h := IntWalk.wrap64_in _ (by omega)
  have wr2 : wrap64 (16 * h * 65536) = 16 * h * 65536 := IntWalk.wrap64_in _ (by omega)
  go_enter Try.func64, Try.ntmps64
  go_wp2_with fail
  exact bodyPost_ret (v := mtv (devM h)) (by simp [results, Try.results64, go_sem, mtv, devM]) rfl ⟨rfl, by repeat (first | exact bal (Below.refl _ _) _ | refine bset ?_ (by simp) _)⟩
set_option maxRecDepth 100000 in
set_option maxHeartbeats 4000000 in
theorem rNew_all (h : Int) (w : World) : Calls Try.prog 31 #[.int .i64 h] w
    fun e w' => e = .returned (.tuple #[.agg (stC (newB h).1 (.slice none 0 0) (.slice none 0 0) (.slice none 0 0)).toArray, .int .i64 (newB h).2]) ∧ Below w.heap.size w w' := by
  obtain ⟨w0, hw0⟩ : ∃ w0 : World, w0 = w.alloc (.cells (stC zeroS (.slice none 0 0) (.slice none 0 0) (.slice none 0 0)).toArray 34) := ⟨_, rfl⟩
  have hB0 : Below w.heap.size w w0 := by rw [hw0]; exact bal (Below.refl _ _) _
  have hS : BC w0 w.heap.size (stC zeroS (.slice none 0 0) (.slice none 0 0) (.slice none 0 0)) := by rw [hw0]; exact BC.new _ 34 rfl
  rw [zero_lit] at hw0
  obtain ⟨Y, hY⟩ : ∃ Y, newB h = Y := ⟨_, rfl⟩
  rw [hY]
  have HY := Lib.hid hY
  clear hY
  go_enter Try.func31, Try.ntmps31
  go_upto_region 1 with (fail)
  rw [← hw0]
  clear hw0
  go_wp2_with fail
  refine (rIsSide_any h _).mono ?_; rintro e w' ⟨rfl, rfl⟩
  cases hi : inB h 1 64
  · have HY2 : Hid (Y = (zeroS, 1)) := Lib.hid (by rw [← HY.out]; unfold newB; rw [if_neg]; simp [inB] at hi; omega)
    have hF := hS.putAll (stC zeroS (.slice none 0 0) (.slice none 0 0) (.slice none 0 0)) rfl
    have hFB := below_setCells (Nat.le_refl w.heap.size) (stC zeroS (.slice none 0 0) (.slice none 0 0) (.slice none 0 0)) 0 _ hB0
    go_wp2_with (first
      | (refine wpList_store_rec rfl _ _ _ rfl w.heap.size (stC zeroS (.slice none 0 0) (.slice none 0 0) (.slice none 0 0)) _ rfl rfl 24 stT hS rfl rfl zero_one ?_)
      | fail)
    refine bodyPost_ret (result_rec rfl rfl rfl stT hF rfl) rfl ?_
    rw [HY2.out]
    exact ⟨rfl, hFB⟩
  · have hh : 1 ≤ h ∧ h ≤ 64 := by simpa [inB] using hi
    have HD := Lib.hid fun W => rDevice_any h W hh.1 hh.2
    unfold mtv at HD
    obtain ⟨y, hy⟩ : ∃ y, newS h = y := ⟨_, rfl⟩
    have HY2 : Hid (Y = (y, 0)) := Lib.hid (by rw [← HY.out, ← hy]; unfold newB; rw [if_pos hh])
    have hym : devM h = y.m := by rw [← hy]; rfl
    have hyr : stC y (.slice none 0 0) (.slice none 0 0) (.slice none 0 0) = [.int .i64 y.m.a, .int .i64 y.m.b, .int .i64 y.m.c, .int .i64 y.m.d, .int .i64 y.m.e, .int .i64 y.m.f, .slice none 0 0, .slice none 0 0, .int .u8 0, .int .u8 0, .int .u8 0, .int .u8 255,
      .int .i64 65536, .int .i64 0, .int .i64 0, .slice none 0 0, .int .i64 0, .int .i64 0, .bool false, .int .i64 0, .int .i64 0, .int .i64 0, .string { data := #[] }, .int .i64 65536] := by rw [← hy]; rfl
    rw [hym] at HD
    have HYR := Lib.hid hyr
    have hone : ∀ v ∈ stC y (.slice none 0 0) (.slice none 0 0) (.slice none 0 0), v.oneCell' = true := stC_one rfl rfl rfl
    clear hym hy hyr hh hi
    go_wp2_with fail
    refine (HD.out _).mono ?_; rintro e w1 ⟨rfl, hb1⟩
    have hS2 := hS.below hb1
    have B2 := btr hB0 hb1
    have hF := hS2.putAll (stC y (.slice none 0 0) (.slice none 0 0) (.slice none 0 0)) rfl
    have hFB := below_setCells (Nat.le_refl w.heap.size) (stC y (.slice none 0 0) (.slice none 0 0) (.slice none 0 0)) 0 _ B2
    go_wp2_with (first
      | (refine wpList_store_rec rfl _ _ _ rfl w.heap.size (stC y (.slice none 0 0) (.slice none 0 0) (.slice none 0 0)) _ rfl (by rw [HYR.out]; rfl) 24 stT hS2 rfl rfl hone ?_)
      | fail)
    refine bodyPost_ret (result_rec rfl rfl rfl stT hF rfl) rfl ?_
    rw [HY2.out]
    exact ⟨rfl, hFB⟩
end Go.Proofs.Ytaadajadeemndaa
