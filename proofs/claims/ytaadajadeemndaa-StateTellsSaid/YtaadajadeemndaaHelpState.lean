/- tympanhelp.State: two states that read as one are alike. -/
import Derived.Test.YtaadajadeemndaaSt9
import Derived.Test.YtaadajadeemndaaSame
namespace Go.Proofs.Ytaadajadeemndaa
open Go.RowKit Go.BigFrame

set_option maxHeartbeats 400000 in
theorem sameInt_any (A X : Option Addr) (n m c d : Nat) (l : List Int) (w : World) (hn : n ≤ 1000000) (h : Sl w 1 A n (ints l)) (k : Sl w 1 X m (ints l)) :
    Calls Try.prog 44 #[.slice A n c, .slice X m d] w fun e w' => e = .returned (.bool true) ∧ ∃ q, w.drewN q = w' := by
  have hl : l.length = n := by have := h.1; simpa [ints] using this
  obtain rfl : n = m := by have := k.1; simp only [ints, List.length_map] at this; omega
  go_enter Try.func44, Try.ntmps44
  go_wp2
  go_loopw [5] (fun i wr => ∃ j : Nat, j ≤ n ∧ i = .int .i64 j ∧ ∃ q, w.drewN q = wr) (fun i _ => n - (intOf i).toNat)
  case atStart => exact ⟨0, by omega, rfl, 0, rfl⟩
  case round =>
    obtain ⟨j, hj, rfl, q, rfl⟩ := hrel
    by_cases hlt : j < n
    · obtain ⟨b, off, rfl, hb, hc⟩ := h.2 (by omega)
      obtain ⟨b', off', rfl, hb', hd⟩ := k.2 (by omega)
      obtain ⟨z, hz⟩ : ∃ z, z = l[j]'(by omega) := ⟨_, rfl⟩
      have c0 : w.cell? ⟨b, off + j, none⟩ = some (.int .i64 z) := hc j _ (by simp [ints, hz, List.getElem?_eq_getElem (show j < l.length by omega)])
      have d0 : w.cell? ⟨b', off' + j, none⟩ = some (.int .i64 z) := hd j _ (by simp [ints, hz, List.getElem?_eq_getElem (show j < l.length by omega)])
      clear hz hc hd
      go_wp2
      go_quiet (fail)
      go_wp2
      go_roundw
      case rel => exact ⟨j + 1, by omega, by go_num, q + nq, rfl⟩
      case measure => simp [intOf]; omega
    · go_wp2
      go_ret
      exact ⟨rfl, q, rfl⟩
theorem quiet_more {P : Program} {f : FuncId} {args : Array Value} {w : World} {n r : Nat} {v : Value} (h : Calls P f args (w.drewN (n + r)) fun e w' => e = .returned v ∧ ∃ q, (w.drewN (n + r)).drewN q = w') :
    Calls P f args (w.drewN (n + r)) fun e w'' => e = .returned v ∧ ∃ m, w'' = w.drewN (n + m) := h.mono fun _ _ ⟨he, q, hq⟩ => ⟨he, r + q, by rw [← hq, World.drewN_drewN, Nat.add_assoc]⟩
set_option maxRecDepth 100000 in
set_option maxHeartbeats 1000000 in
theorem helpClips_any (A X : Option Addr) (n c d : Nat) (l : List Cl) (w : World) (hl : n = l.length) (hn : n ≤ 1000) (hpl : ∀ c ∈ l, c.p.length ≤ 1000) (h : ClSl w A l) (k : ClSl w X l) :
    Calls Try.prog 47 #[.slice A n c, .slice X n d] w fun e w' => e = .returned (.bool true) ∧ ∃ q, w.drewN q = w' := by
  have HL := Lib.hid hl
  have HPL := Lib.hid hpl
  clear hl hpl
  go_enter Try.func47, Try.ntmps47
  go_wp2
  go_loopw [5] (fun i wr => ∃ j : Nat, j ≤ n ∧ i = .int .i64 j ∧ ∃ q, w.drewN q = wr) (fun i _ => n - (intOf i).toNat)
  case atStart => exact ⟨0, by omega, rfl, 0, rfl⟩
  case round =>
    obtain ⟨j, hj, rfl, q, rfl⟩ := hrel
    by_cases hlt : j < n
    · have hjl : j < l.length := by rw [← HL.out]; exact hlt
      obtain ⟨b, off, Ae, ce, rfl, hb, c0, c1, hs, hce, hcm⟩ := h.get j hjl
      obtain ⟨b', off', Ae', ce', rfl, hb', d0, d1, hs', hce', hcm'⟩ := k.get j hjl
      have hlen := HPL.out l[j] (List.getElem_mem hjl)
      obtain ⟨x, hx⟩ : ∃ x, l[j] = x := ⟨_, rfl⟩
      rw [hx] at c0 c1 hs d0 d1 hs' hlen hce hce'
      obtain ⟨nx, hnx⟩ : ∃ n, n = x.p.length := ⟨_, rfl⟩
      rw [← hnx] at c0 hs d0 hs' hlen hce hce'
      have HS := Lib.hid fun W (hb : ∃ q, W = w.drewN q) => sameSg_any Ae Ae' nx nx ce ce' x.p W (by omega) (by obtain ⟨q, rfl⟩ := hb; exact hs.drewN q) (by obtain ⟨q, rfl⟩ := hb; exact hs'.drewN q)
      clear hx hnx hs hs'
      go_wp2_with fail
      go_quiet (first
        | (go_at_call 12; with_reducible exact quiet_more (HS.out _ ⟨_, rfl⟩))
        | fail)
      go_wp2_with fail
      go_roundw
      case rel => exact ⟨j + 1, by omega, by go_num, q + nq, rfl⟩
      case measure => simp [intOf]; omega
    · go_wp2_with fail
      go_ret
      exact ⟨rfl, q, rfl⟩
theorem BC.mid {w : World} {g : Nat} {C : List Value} (h : BC w g C) (o : Nat) (cs : List Value) (hc : ∀ j v, cs[j]? = some v → C[o + j]? = some v) : w.rangeAt g o cs := fun j v hv => h.c (o + j) v (hc j v hv)
theorem eqM_refl (m : Mt) : eqM m m = true := by simp [eqM]
set_option maxRecDepth 100000 in
theorem eql_ob2 (o : Ob) (w : World) : (binOp .eql 32 (obv o) (obv o)).run Try.prog w = .ok (.bool true) w := by
  unfold obv obC
  simp [go_sem]
set_option maxRecDepth 100000 in
set_option maxHeartbeats 4000000 in
theorem helpState_any (x : St) (P C D P' C' D' : Value) (w : World) (h : StAt w x P C D) (k : StAt w x P' C' D') (hf : stFew x) :
    Calls Try.prog 22 #[.agg (stC x P C D).toArray, .agg (stC x P' C' D').toArray] w fun e w' => e = .returned (.bool true) ∧ Below w.heap.size w w' := by
  obtain ⟨w0, hw0⟩ : ∃ w0 : World, w0 = (w.alloc (.cells (stC x P C D).toArray 34)).alloc (.cells (stC x P' C' D').toArray 34) := ⟨_, rfl⟩
  have hB0 : Below w.heap.size w w0 := by rw [hw0]; exact bal (bal (Below.refl _ _) _) _
  have hA : BC w0 w.heap.size (stC x P C D) := by rw [hw0]; exact (BC.new (stC x P C D) 34 rfl).below (bal (Below.refl _ _) _)
  have hK : BC w0 (w.heap.size + 1) (stC x P' C' D') := by rw [hw0]; exact BC.new (w := w.alloc (.cells (stC x P C D).toArray 34)) _ 34 (by simp)
  have h0 := h.below hB0
  have k0 := k.below hB0
  clear h k
  obtain ⟨f1, f2, f3, f4⟩ := hf
  obtain ⟨⟨Ap, cp, rfl, hp, hpc, hpm⟩, hcv, ⟨Ad, cd, rfl, hd, hdc, hdm⟩⟩ := h0
  obtain ⟨Ac, cc, rfl, hc, hcc, hcm⟩ := hcv.sl
  obtain ⟨⟨Bp, bp, rfl, kp, kpc, kpm⟩, kcv, ⟨Bd, bd, rfl, kd, kdc, kdm⟩⟩ := k0
  obtain ⟨Bc, bc, rfl, kc, kcc, kcm⟩ := kcv.sl
  clear hcv kcv
  have HM := Lib.hid fun W => eql_mat x.m x.m W
  rw [eqM_refl] at HM
  unfold mtv at HM
  have HO := Lib.hid fun W => eql_ob2 x.f W
  unfold obv obC at HO
  obtain ⟨np, hnp⟩ : ∃ n, n = x.p.length := ⟨_, rfl⟩
  obtain ⟨nc, hnc⟩ : ∃ n, n = x.cl.length := ⟨_, rfl⟩
  obtain ⟨nd, hnd⟩ : ∃ n, n = x.da.length := ⟨_, rfl⟩
  rw [← hnp] at hA hK hw0 hp kp f1 ⊢
  rw [← hnc] at hA hK hw0 f2 ⊢
  rw [← hnd] at hA hK hw0 hd kd f4 ⊢
  have HS1 := Lib.hid fun W (hb : Below w0.heap.size w0 W) => sameSg_any Ap Bp np np cp bp x.p W (by omega) (hp.below hb) (kp.below hb)
  have HS2 := Lib.hid fun W (hb : Below w0.heap.size w0 W) => helpClips_any Ac Bc nc cc bc x.cl W hnc (by omega) f3 (hc.below hb) (kc.below hb)
  have HS3 := Lib.hid fun W (hb : Below w0.heap.size w0 W) => sameInt_any Ad Bd nd nd cd bd x.da W (by omega) (hd.below hb) (kd.below hb)
  have HA := Lib.hid hA
  have HK := Lib.hid hK
  have HW0 := Lib.hid hw0
  have a0 := hA.c 0 _ rfl
  have a1 := hA.c 1 _ rfl
  have a2 := hA.c 2 _ rfl
  have a3 := hA.c 3 _ rfl
  have a4 := hA.c 4 _ rfl
  have a5 := hA.c 5 _ rfl
  have k0 := hK.c 0 _ rfl
  have k1 := hK.c 1 _ rfl
  have k2 := hK.c 2 _ rfl
  have k3 := hK.c 3 _ rfl
  have k4 := hK.c 4 _ rfl
  have k5 := hK.c 5 _ rfl
  have a6 := hA.c 6 _ rfl
  have k6 := hK.c 6 _ rfl
  clear hnp hnc hnd hp kp hd kd f1 f2 f3 f4 hA hK hc kc
  have hme := fun W => HM.out W
  go_enter Try.func22, Try.ntmps22
  go_upto_region 1 with (fail)
  rw [← hw0]
  clear hw0
  go_wp2_with fail
  refine (HS1.out _ (Below.refl _ _)).mono ?_; rintro e w1 ⟨rfl, q1, hq1⟩
  have G1 : Below w0.heap.size w0 w1 := hq1 ▸ bdrewN (Below.refl w0.heap.size w0) q1
  clear hq1
  have A1 := HA.out.below G1
  have K1 := HK.out.below G1
  clear a0 a1 a2 a3 a4 a5 k0 k1 k2 k3 k4 k5 a6 k6
  have a7 := A1.c 7 _ rfl
  have k7 := K1.c 7 _ rfl
  go_wp2_with fail
  refine (HS2.out _ G1).mono ?_; rintro e w2 ⟨rfl, q2, hq2⟩
  have G2 : Below w0.heap.size w0 w2 := btr G1 (hq2 ▸ bdrewN (Below.refl w1.heap.size w1) q2)
  clear hq2
  have A2 := HA.out.below G2
  have K2 := HK.out.below G2
  clear A1 K1 a7 k7
  have a8 := A2.c 8 _ rfl
  have a9 := A2.c 9 _ rfl
  have a10 := A2.c 10 _ rfl
  have a11 := A2.c 11 _ rfl
  have a12 := A2.c 12 _ rfl
  have a13 := A2.c 13 _ rfl
  have a14 := A2.c 14 _ rfl
  have a15 := A2.c 15 _ rfl
  have k8 := K2.c 8 _ rfl
  have k9 := K2.c 9 _ rfl
  have k10 := K2.c 10 _ rfl
  have k11 := K2.c 11 _ rfl
  have k12 := K2.c 12 _ rfl
  have k13 := K2.c 13 _ rfl
  have k14 := K2.c 14 _ rfl
  have k15 := K2.c 15 _ rfl
  clear hme
  go_wp2_with fail
  refine (HS3.out _ G2).mono ?_; rintro e w3 ⟨rfl, q3, hq3⟩
  have G3 : Below w0.heap.size w0 w3 := btr G2 (hq3 ▸ bdrewN (Below.refl w2.heap.size w2) q3)
  clear hq3
  have A3 := HA.out.below G3
  have K3 := HK.out.below G3
  clear A2 K2 a8 a9 a10 a11 a12 a13 a14 a15 k8 k9 k10 k11 k12 k13 k14 k15
  have a16 := A3.c 16 _ rfl
  have a17 := A3.c 17 _ rfl
  have a18 := A3.c 18 _ rfl
  have a19 := A3.c 19 _ rfl
  have a20 := A3.c 20 _ rfl
  have a21 := A3.c 21 _ rfl
  have a22 := A3.c 22 _ rfl
  have a23 := A3.c 23 _ rfl
  have k16 := K3.c 16 _ rfl
  have k17 := K3.c 17 _ rfl
  have k18 := K3.c 18 _ rfl
  have k19 := K3.c 19 _ rfl
  have k20 := K3.c 20 _ rfl
  have k21 := K3.c 21 _ rfl
  have k22 := K3.c 22 _ rfl
  have k23 := K3.c 23 _ rfl
  have hoe := fun W => HO.out W
  go_wp2_with fail
  go_ret
  exact ⟨rfl, btr hB0 G3⟩
end Go.Proofs.Ytaadajadeemndaa
