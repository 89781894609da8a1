/- tympanhelp.State: two states that read as one are alike. -/
import Derived.Test.YtdfkbbcoolgfiaaGreatMS9
import Derived.Test.YtdfkbbcoolgfiaaGreatSame
namespace Go.Proofs.YtdfkbbcoolgfiaaGreat
open Go.RowKit Go.BigFrame

set_option maxHeartbeats 400000 in
theorem sameInt_any (A X : Option Addr) (n m c d : Nat) (l : List Int) (w : World) (hn : n ≤ 1000000) (h : Sl w 1 A n (ints l)) (k : Sl w 1 X m (ints l)) :
    Calls Tryz.prog 45 #[.slice A n c, .slice X m d] w fun e w' => e = .returned (.bool true) ∧ ∃ q, w.drewN q = w' := by
  have hl : l.length = n := by have := h.1; simpa [ints] using this
  obtain rfl : n = m := by have := k.1; simp only [ints, List.length_map] at this; omega
  go_enter Tryz.func45, Tryz.ntmps45
  go_wp2
  go_loopw [5] (fun i wr => ∃ j : Nat, j ≤ n ∧ i = .int .i64 j ∧ ∃ q, w.drewN q = wr) (fun i _ => n - (intOf i).toNat)
  case atStart => exact ⟨0, by omega, rfl, 0, rfl⟩
  case round =>
    obtain ⟨j, hj, rfl, q, rfl⟩ := hrel
    by_cases hlt : j < n
    · obtain ⟨b, off, rfl, hb, hc⟩ := h.2 (by omega)
      obtain ⟨b', off', rfl, hb', hd⟩ := k.2 (by omega)
      obtain ⟨z, hz⟩ : ∃ z, z = l[j]'(by omega) := ⟨_, rfl⟩
      have c0 : w.cell? ⟨b, off + j, none⟩ = some (.int .i64 z) := hc j _ (by simp [ints, hz, List.getElem?_eq_getElem (show j < l.length by omega)])
      have d0 : w.cell? ⟨b', off' + j, none⟩ = some (.int .i64 z) := hd j _ (by simp [ints, hz, List.getElem?_eq_getElem (show j < l.length by omega)])
      clear hz hc hd
      go_wp2
      go_quiet (fail)
      go_wp2
      go_roundw
      case rel => exact ⟨j + 1, by omega, by go_num, q + nq, rfl⟩
      case measure => simp [intOf]; omega
    · go_wp2
      go_ret
      exact ⟨rfl, q, rfl⟩
theorem quiet_more {P : Program} {f : FuncId} {args : Array Value} {w : World} {n r : Nat} {v : Value} (h : Calls P f args (w.drewN (n + r)) fun e w' => e = .returned v ∧ ∃ q, (w.drewN (n + r)).drewN q = w') :
    Calls P f args (w.drewN (n + r)) fun e w'' => e = .returned v ∧ ∃ m, w'' = w.drewN (n + m) := h.mono fun _ _ ⟨he, q, hq⟩ => ⟨he, r + q, by rw [← hq, World.drewN_drewN, Nat.add_assoc]⟩
set_option maxRecDepth 100000 in
set_option maxHeartbeats 1000000 in
theorem helpClips_any (A X : Option Addr) (n c d : Nat) (l : List Cl) (w : World) (hl : n = l.length) (hn : n ≤ 1000) (hpl : ∀ c ∈ l, c.p.length ≤ 1000) (h : ClSl w A l) (k : ClSl w X l) :
    Calls Tryz.prog 44 #[.slice A n c, .slice X n d] w fun e w' => e = .returned (.bool true) ∧ ∃ q, w.drewN q = w' := by
  have HL := Lib.hid hl
  have HPL := Lib.hid hpl
  clear hl hpl
  go_enter Tryz.func44, Tryz.ntmps44
  go_wp2
  go_loopw [5] (fun i wr => ∃ j : Nat, j ≤ n ∧ i = .int .i64 j ∧ ∃ q, w.drewN q = wr) (fun i _ => n - (intOf i).toNat)
  case atStart => exact ⟨0, by omega, rfl, 0, rfl⟩
  case round =>
    obtain ⟨j, hj, rfl, q, rfl⟩ := hrel
    by_cases hlt : j < n
    · have hjl : j < l.length := by rw [← HL.out]; exact hlt
      obtain ⟨b, off, Ae, ce, rfl, hb, c0, c1, hs, hce, hcm⟩ := h.get j hjl
      obtain ⟨b', off', Ae', ce', rfl, hb', d0, d1, hs', hce', hcm'⟩ := k.get j hjl
      have hlen := HPL.out l[j] (List.getElem_mem hjl)
      obtain ⟨x, hx⟩ : ∃ x, l[j] = x := ⟨_, rfl⟩
      rw [hx] at c0 c1 hs d0 d1 hs' hlen hce hce'
      obtain ⟨nx, hnx⟩ : ∃ n, n = x.p.length := ⟨_, rfl⟩
      rw [← hnx] at c0 hs d0 hs' hlen hce hce'
      have HS := Lib.hid fun W (hb : ∃ q, W = w.drewN q) => sameSg_any Ae Ae' nx nx ce ce' x.p W (by omega) (by obtain ⟨q, rfl⟩ := hb; exact hs.drewN q) (by obtain ⟨q, rfl⟩ := hb; exact hs'.drewN q)
      clear hx hnx hs hs'
      go_wp2_with fail
      go_quiet (first
        | (go_at_call 43; with_reducible exact quiet_more (HS.out _ ⟨_, rfl⟩))
        | fail)
      go_wp2_with fail
      go_roundw
      case rel => exact ⟨j + 1, by omega, by go_num, q + nq, rfl⟩
      case measure => simp [intOf]; omega
    · go_wp2_with fail
      go_ret
      exact ⟨rfl, q, rfl⟩
theorem BC.mid {w : World} {g : Nat} {C : List Value} (h : BC w g C) (o : Nat) (cs : List Value) (hc : ∀ j v, cs[j]? = some v → C[o + j]? = some v) : w.rangeAt g o cs := fun j v hv => h.c (o + j) v (hc j v hv)
theorem eqM_refl (m : Mt) : eqM m m = true := by simp [eqM]
set_option maxRecDepth 100000 in
theorem eql_ob2 (o : Ob) (w : World) : (binOp .eql 30 (obv o) (obv o)).run Tryz.prog w = .ok (.bool true) w := by
  unfold obv obC
  simp [go_sem]
set_option maxRecDepth 100000 in
set_option maxHeartbeats 4000000 in
theorem helpState_any (x : St) (P C D P' C' D' : Value) (w : World) (h : StAt w x P C D) (k : StAt w x P' C' D') (hf : stFew x) :
    Calls Tryz.prog 18 #[.agg (stC x P C D).toArray, .agg (stC x P' C' D').toArray] w fun e w' => e = .returned (.bool true) ∧ Below w.heap.size w w' := by
  obtain ⟨w0, hw0⟩ : ∃ w0 : World, w0 = (w.alloc (.cells (stC x P C D).toArray 32)).alloc (.cells (stC x P' C' D').toArray 32) := ⟨_, rfl⟩
  have hB0 : Below w.heap.size w w0 := by rw [hw0]; exact bal (bal (Below.refl _ _) _) _
  have hA : BC w0 w.heap.size (stC x P C D) := by rw [hw0]; exact (BC.new (stC x P C D) 32 rfl).below (bal (Below.refl _ _) _)
  have hK : BC w0 (w.heap.size + 1) (stC x P' C' D') := by rw [hw0]; exact BC.new (w := w.alloc (.cells (stC x P C D).toArray 32)) _ 32 (by simp)
  have h0 := h.below hB0
  have k0 := k.below hB0
  clear h k
  obtain ⟨f1, f2, f3, f4⟩ := hf
  obtain ⟨⟨Ap, cp, rfl, hp, hpc, hpm⟩, hcv, ⟨Ad, cd, rfl, hd, hdc, hdm⟩⟩ := h0
  obtain ⟨Ac, cc, rfl, hc, hcc, hcm⟩ := hcv.sl
  obtain ⟨⟨Bp, bp, rfl, kp, kpc, kpm⟩, kcv, ⟨Bd, bd, rfl, kd, kdc, kdm⟩⟩ := k0
  obtain ⟨Bc, bc, rfl, kc, kcc, kcm⟩ := kcv.sl
  clear hcv kcv
  have HM := Lib.hid fun W => eql_mat x.m x.m W
  rw [eqM_refl] at HM
  unfold mtv at HM
  have HO := Lib.hid fun W => eql_ob2 x.f W
  unfold obv obC at HO
  obtain ⟨np, hnp⟩ : ∃ n, n = x.p.length := ⟨_, rfl⟩
  obtain ⟨nc, hnc⟩ : ∃ n, n = x.cl.length := ⟨_, rfl⟩
  obtain ⟨nd, hnd⟩ : ∃ n, n = x.da.length := ⟨_, rfl⟩
  rw [← hnp] at hA hK hw0 hp kp f1 ⊢
  rw [← hnc] at hA hK hw0 f2 ⊢
  rw [← hnd] at hA hK hw0 hd kd f4 ⊢
  have HS1 := Lib.hid fun W (hb : Below w0.heap.size w0 W) => sameSg_any Ap Bp np np cp bp x.p W (by omega) (hp.below hb) (kp.below hb)
  have HS2 := Lib.hid fun W (hb : Below w0.heap.size w0 W) => helpClips_any Ac Bc nc cc bc x.cl W hnc (by omega) f3 (hc.below hb) (kc.below hb)
  have HS3 := Lib.hid fun W (hb : Below w0.heap.size w0 W) => sameInt_any Ad Bd nd nd cd bd x.da W (by omega) (hd.below hb) (kd.below hb)
  have HA := Lib.hid hA
  have HK := Lib.hid hK
  have HW0 := Lib.hid hw0
  have a0 := hA.c 0 _ rfl
  have a1 := hA.c 1 _ rfl
  have a2 := hA.c 2 _ rfl
  have a3 := hA.c 3 _ rfl
  have a4 := hA.c 4 _ rfl
  have a5 := hA.c 5 _ rfl
  have k0 := hK.c 0 _ rfl
  have k1 := hK.c 1 _ rfl
  have k2 := hK.c 2 _ rfl
  have k3 := hK.c 3 _ rfl
  have k4 := hK.c 4 _ rfl
  have k5 := hK.c 5 _ rfl
  have a6 := hA.c 6 _ rfl
  have k6 := hK.c 6 _ rfl
  clear hnp hnc hnd hp kp hd kd f1 f2 f3 f4 hA hK hc kc
  have hme := fun W => HM.out W
  go_enter Tryz.func18, Tryz.ntmps18
  go_upto_region 1 with (fail)
  rw [← hw0]
  clear hw0
  go_wp2_with fail
  refine (HS1.out _ (Below.refl _ _)).mono ?_; rintro e w1 ⟨rfl, q1, hq1⟩
  have G1 : Below w0.heap.size w0 w1 := hq1 ▸ bdrewN (Below.refl w0.heap.size w0) q1
  clear hq1
  have A1 := HA.out.below G1
  have K1 := HK.out.below G1
  clear a0 a1 a2 a3 a4 a5 k0 k1 k2 k3 k4 k5 a6 k6
  have a7 := A1.c 7 _ rfl
  have k7 := K1.c 7 _ rfl
  go_wp2_with fail
  refine (HS2.out _ G1).mono ?_; rintro e w2 ⟨rfl, q2, hq2⟩
  have G2 : Below w0.heap.size w0 w2 := btr G1 (hq2 ▸ bdrewN (Below.refl w1.heap.size w1) q2)
  clear hq2
  have A2 := HA.out.below G2
  have K2 := HK.out.below G2
  clear A1 K1 a7 k7
  have a8 := A2.c 8 _ rfl
  have a9 := A2.c 9 _ rfl
  have a10 := A2.c 10 _ rfl
  have a11 := A2.c 11 _ rfl
  have a12 := A2.c 12 _ rfl
  have a13 := A2.c 13 _ rfl
  have a14 := A2.c 14 _ rfl
  have a15 := A2.c 15 _ rfl
  have k8 := K2.c 8 _ rfl
  have k9 := K2.c 9 _ rfl
  have k10 := K2.c 10 _ rfl
  have k11 := K2.c 11 _ rfl
  have k12 := K2.c 12 _ rfl
  have k13 := K2.c 13 _ rfl
  have k14 := K2.c 14 _ rfl
  have k15 := K2.c 15 _ rfl
  clear hme
  go_wp2_with fail
  refine (HS3.out _ G2).mono ?_; rintro e w3 ⟨rfl, q3, hq3⟩
  have G3 : Below w0.heap.size w0 w3 := btr G2 (hq3 ▸ bdrewN (Below.refl w2.heap.size w2) q3)
  clear hq3
  have A3 := HA.out.below G3
  have K3 := HK.out.below G3
  clear A2 K2 a8 a9 a10 a11 a12 a13 a14 a15 k8 k9 k10 k11 k12 k13 k14 k15
  have a16 := A3.c 16 _ rfl
  have a17 := A3.c 17 _ rfl
  have a18 := A3.c 18 _ rfl
  have a19 := A3.c 19 _ rfl
  have a20 := A3.c 20 _ rfl
  have a21 := A3.c 21 _ rfl
  have a22 := A3.c 22 _ rfl
  have a23 := A3.c 23 _ rfl
  have k16 := K3.c 16 _ rfl
  have k17 := K3.c 17 _ rfl
  have k18 := K3.c 18 _ rfl
  have k19 := K3.c 19 _ rfl
  have k20 := K3.c 20 _ rfl
  have k21 := K3.c 21 _ rfl
  have k22 := K3.c 22 _ rfl
  have k23 := K3.c 23 _ rfl
  have hoe := fun W => HO.out W
  go_wp2_with fail
  go_ret
  exact ⟨rfl, btr hB0 G3⟩
end Go.Proofs.YtdfkbbcoolgfiaaGreat

namespace Go.Proofs.YtdfkbbcoolgfiaaGreat
open Go.RowKit Go.BigFrame

theorem stC_clip (x : St) (P C D Q : Value) (l : List Cl) : ((stC x P C D).set 7 Q).set 6 (.slice none 0 0) = stC { x with p := [], cl := l } (.slice none 0 0) Q D := rfl
def clipS (x : St) (rule : Int) : St × Int :=
  if (mayS x && ruleB rule) = false then (zeroS, 1) else if 10 ≤ x.cl.length then (zeroS, 5) else ({ x with p := [], cl := x.cl ++ [⟨x.p, rule⟩] }, 0)
theorem clT : SlT Tryz.prog 25 65 2 32 := slT_of Tryz.underlying25 (by kernel_rfl) (by omega) (by omega)
theorem clcs_app (a b : List (Cl × Value)) : clcs (a ++ b) = clcs a ++ clcs b := by simp [clcs]
/-- A clip more, its path in memory of one's own. -/
theorem ClOwn.push {w w' : World} {B : Nat} {A A' : Option Addr} {n c c' : Nat} {l : List Cl} {k : Cl} {V : Value} {ps : List (Cl × Value)} (hm : ps.map Prod.fst = l) (hp : ∀ p ∈ ps, w.ownsRow B 63 5 p.2 p.1.p.length (sgs p.1.p)) (hV : w.ownsRow B 63 5 V k.p.length (sgs k.p))
    (ho : w.ownsRow B 65 2 (.slice A n c) n (clcs ps)) (hn : w'.ownsRow B 65 2 (.slice A' (n + 1) c') (n + 1) (clcs ps ++ clc (k, V))) (hg : w.grownBy w' (Value.ownBlock (.slice A n c))) (hl : l.length = n) : ClOwn w' B (.slice A' (n + 1) c') (l ++ [k]) := by
  have hne : ∀ {v : Value} {m : Nat} {xs : List Value}, w.ownsRow B 63 5 v m xs → w'.ownsRow B 63 5 v m xs := fun h => h.kept hg (own_ne h ho (by decide))
  refine ⟨ps ++ [(k, V)], by simp [hm], ?_, fun p hpp => ?_⟩
  · rw [List.length_append, hl, clcs_app]
    show w'.ownsRow B 65 2 (.slice A' (n + 1) c') (n + 1) (clcs ps ++ clcs [(k, V)])
    have : clcs [(k, V)] = clc (k, V) := by simp [clcs]
    rw [this]; exact hn
  · rcases List.mem_append.1 hpp with h | h
    · exact hne (hp p h)
    · rw [List.mem_singleton] at h; subst h; exact hne hV
theorem BC.grown {w w' : World} {g : Nat} {C : List Value} {blk : Option Nat} (h : BC w g C) (hg : w.grownBy w' blk) (hne : blk ≠ some g) : BC w' g C := by
  have hb := hg.block g h.lt (fun e => hne e.symm)
  exact ⟨Nat.lt_of_lt_of_le h.lt hg.size, fun i => (World.frozen?_of_block (a := ⟨g, i, none⟩) hb).trans (h.nf i), fun j v hv => (World.cell?_of_block (a := ⟨g, j, none⟩) hb).trans (h.c j v hv)⟩
set_option maxRecDepth 100000 in
set_option maxHeartbeats 4000000 in
theorem stClip_any (x : St) (P C D : Value) (rule : Int) (Y : St × Int) (w : World) (h : StAt w x P C D) (hY : clipS x rule = Y) : Calls Tryz.prog 13 #[.agg (stC x P C D).toArray, .int .i64 rule] w
    fun r w' => ∃ P' C' D', r = .returned (.tuple #[.agg (stC Y.1 P' C' D').toArray, .int .i64 Y.2]) ∧ StOwn w' w.heap.size Y.1 P' C' D' ∧ Below w.heap.size w w' := by
  obtain ⟨w0, hw0⟩ : ∃ w0 : World, w0 = (w.alloc (.cells (stC x P C D).toArray 32)).alloc (.cells (stC zeroS (.slice none 0 0) (.slice none 0 0) (.slice none 0 0)).toArray 32) := ⟨_, rfl⟩
  have hB0 : Below w.heap.size w w0 := by rw [hw0]; exact bal (bal (Below.refl _ _) _) _
  have hA : BC w0 w.heap.size (stC x P C D) := by rw [hw0]; exact (BC.new (stC x P C D) 32 rfl).below (bal (Below.refl _ _) _)
  have hR : BC w0 (w.heap.size + 1) (stC zeroS (.slice none 0 0) (.slice none 0 0) (.slice none 0 0)) := by rw [hw0]; exact BC.new (w := w.alloc (.cells (stC x P C D).toArray 32)) _ 32 (by simp)
  have hgA := hA.lt
  have hgR := hR.lt
  have h0 := h.below hB0
  rw [zero_lit] at hw0
  obtain ⟨Ac, cc, rfl, hc, hcc, hcm⟩ := h0.c.sl
  obtain ⟨nc, hnc⟩ : ∃ n, n = x.cl.length := ⟨_, rfl⟩
  rw [← hnc] at hw0 hA hcc h h0 ⊢
  have HNC := Lib.hid hnc
  have HY := Lib.hid hY
  have HM := Lib.hid fun W (hb : Below w0.heap.size w0 W) => stMay_any x P (.slice Ac nc cc) D W (h0.below hb)
  have HCo := Lib.hid fun (hf : stFew x) W (hb : Below w0.heap.size w0 W) => copied_any x P (.slice Ac nc cc) D W (h0.below hb) hf
  have HA := Lib.hid hA
  have HR := Lib.hid hR
  clear hY h0 h hA hR hnc hc
  go_enter Tryz.func13, Tryz.ntmps13
  go_upto_region 1 with (fail)
  rw [← hw0]
  clear hw0
  go_wp2_with (first
    | (refine wpList_load_rec rfl _ _ rfl w.heap.size rfl _ 24 stateT HA.out rfl ?_)
    | fail)
  refine (HM.out _ (Below.refl _ _)).mono ?_; rintro e w1 ⟨rfl, hb1⟩
  have G1 := hb1
  have B1 := btr hB0 G1
  clear hb1
  cases hm : mayS x
  · have HY2 : Hid (Y = (zeroS, 1)) := Lib.hid (by rw [← HY.out]; unfold clipS; rw [hm]; simp)
    have hF := (HR.out.below G1).putAll (stC zeroS (.slice none 0 0) (.slice none 0 0) (.slice none 0 0)) rfl
    have hFB := below_setCells (Nat.le_succ w.heap.size) (stC zeroS (.slice none 0 0) (.slice none 0 0) (.slice none 0 0)) 0 _ (B1)
    go_wp2_with (first
      | (refine wpList_load_rec rfl _ _ rfl (w.heap.size + 1) rfl _ 24 stateT (HR.out.below G1) rfl ?_)
      | (refine wpList_store_rec rfl _ _ _ rfl (w.heap.size + 1) (stC zeroS (.slice none 0 0) (.slice none 0 0) (.slice none 0 0)) _ rfl rfl 24 stateT (HR.out.below G1) rfl rfl zero_one ?_)
      | fail)
    refine bodyPost_ret (result_rec rfl rfl rfl stateT hF rfl) rfl ?_
    rw [HY2.out]
    exact ⟨_, _, _, rfl, zero_own _ _, hFB⟩
  · have HFEW := Lib.hid (mayS_few hm)
    go_wp2_with fail
    refine (stIsRule_any rule _).mono ?_; rintro e w' ⟨rfl, rfl⟩
    cases hru : ruleB rule
    · have HY2 : Hid (Y = (zeroS, 1)) := Lib.hid (by rw [← HY.out]; unfold clipS; rw [hm, hru]; simp)
      have hF := (HR.out.below G1).putAll (stC zeroS (.slice none 0 0) (.slice none 0 0) (.slice none 0 0)) rfl
      have hFB := below_setCells (Nat.le_succ w.heap.size) (stC zeroS (.slice none 0 0) (.slice none 0 0) (.slice none 0 0)) 0 _ (B1)
      go_wp2_with (first
        | (refine wpList_load_rec rfl _ _ rfl (w.heap.size + 1) rfl _ 24 stateT (HR.out.below G1) rfl ?_)
        | (refine wpList_store_rec rfl _ _ _ rfl (w.heap.size + 1) (stC zeroS (.slice none 0 0) (.slice none 0 0) (.slice none 0 0)) _ rfl rfl 24 stateT (HR.out.below G1) rfl rfl zero_one ?_)
        | fail)
      refine bodyPost_ret (result_rec rfl rfl rfl stateT hF rfl) rfl ?_
      rw [HY2.out]
      exact ⟨_, _, _, rfl, zero_own _ _, hFB⟩
    · have A1 := HA.out.below G1
      have a7 := A1.c 7 _ rfl
      by_cases h10 : 10 ≤ nc
      · have HY2 : Hid (Y = (zeroS, 5)) := Lib.hid (by rw [← HY.out]; unfold clipS; rw [hm, hru, ← HNC.out]; simp [h10])
        clear HY
        have hF := (HR.out.below G1).putAll (stC zeroS (.slice none 0 0) (.slice none 0 0) (.slice none 0 0)) rfl
        have hFB := below_setCells (Nat.le_succ w.heap.size) (stC zeroS (.slice none 0 0) (.slice none 0 0) (.slice none 0 0)) 0 _ (B1)
        go_wp2_with (first
          | (refine wpList_load_rec rfl _ _ rfl (w.heap.size + 1) rfl _ 24 stateT (HR.out.below G1) rfl ?_)
          | (refine wpList_store_rec rfl _ _ _ rfl (w.heap.size + 1) (stC zeroS (.slice none 0 0) (.slice none 0 0) (.slice none 0 0)) _ rfl rfl 24 stateT (HR.out.below G1) rfl rfl zero_one ?_)
          | fail)
        refine bodyPost_ret (result_rec rfl rfl rfl stateT hF rfl) rfl ?_
        rw [HY2.out]
        exact ⟨_, _, _, rfl, zero_own _ _, hFB⟩
      · have HY2 : Hid (Y = ({ x with p := [], cl := x.cl ++ [⟨x.p, rule⟩] }, 0)) := Lib.hid (by rw [← HY.out]; unfold clipS; rw [hm, hru, ← HNC.out]; simp [h10])
        have HC2 := Lib.hid (HCo.out HFEW.out)
        clear HY HCo hm hru
        go_wp2_with (first
          | (refine wpList_load_rec rfl _ _ rfl w.heap.size rfl _ 24 stateT A1 rfl ?_)
          | fail)
        refine (HC2.out _ G1).mono ?_; rintro e w2 ⟨P2, C2, D2, rfl, ho2, hb2⟩
        have G2 := btr G1 hb2
        have B2 := btr B1 hb2
        have R2 := HR.out.below G2
        have hone2 := ho2.at.one
        have R3 := R2.putAll (stC x P2 C2 D2) rfl
        have B3 := below_setCells (Nat.le_succ w.heap.size) (stC x P2 C2 D2) 0 _ B2
        have ho3 := (ho2.mono G1.size).setCells hgR 0 (stC x P2 C2 D2)
        obtain ⟨w3, hw3⟩ : ∃ w3, w3 = w2.setCells (w.heap.size + 1) 0 (stC x P2 C2 D2) := ⟨_, rfl⟩
        rw [← hw3] at R3 B3 ho3
        have HW3 := Lib.hid hw3
        have hsz3 : w0.heap.size ≤ w3.heap.size := by rw [hw3, setCells_size]; exact G2.size
        clear hw3 ho2 hb2 a7
        obtain ⟨ps, hps, hoc, hpo⟩ := ho3.c
        rw [← HNC.out] at hoc
        obtain ⟨A4, c4, rfl⟩ := own_form hoc
        have hoP := ho3.p
        obtain ⟨Ap, cp, rfl⟩ := own_form hoP
        obtain ⟨np, hnp⟩ : ∃ n, n = x.p.length := ⟨_, rfl⟩
        rw [← hnp] at hoP R3 hone2 HW3 ho3 ⊢
        have HNP := Lib.hid hnp
        have hD2 : D2.oneCell' = true := by obtain ⟨_, _, e⟩ := own_form ho3.d; rw [e]; rfl
        have r6 := R3.c 6 _ rfl
        have r7 := R3.c 7 _ rfl
        have b4 : Below w3.heap.size w3 (w3.alloc (.cells (clc (⟨x.p, rule⟩, .slice Ap np cp)).toArray 65)) := bal (Below.refl _ _) _
        have HOC := Lib.hid (own_below hoc b4)
        have HPO := Lib.hid hpo
        have HO3 := Lib.hid ho3
        have HOP := Lib.hid hoP
        have HPS := Lib.hid hps
        clear hoc hpo ho3 hoP hps hnp
        go_wp2_with (first
          | (refine wpList_store_rec rfl _ _ _ rfl (w.heap.size + 1) (stC x (.slice Ap np cp) (.slice A4 nc c4) D2) _ rfl rfl 24 stateT R2 rfl rfl hone2 ?_; rw [← HW3.out])
          | (at_builtin; refine wpList_app rfl _ _ 25 rfl w0.heap.size clT rfl HOC.out (clc (⟨x.p, rule⟩, .slice Ap np cp)) rfl (sl_newN _ rfl rfl) (oneCell_clc _ rfl) (by omega) (by simp; omega) ?_; intro A7 c7 w7 hown7 hg7 hat7; have R7 := (R3.below b4).grown hg7 (fun e => by have := (HOC.out.lt _ e).1; omega); have f6 := R7.nf 6; have f7 := R7.nf 7; have k6 := R7.c 6 _ rfl; have k7 := R7.c 7 _ rfl; have R8 := (R7.set 7 (.slice A7 (nc + 1) c7) (by show 7 < 24; omega)).set 6 (.slice none 0 0) (by show 6 < 24; omega); rw [stC_clip _ _ _ _ _ (x.cl ++ [⟨x.p, rule⟩])] at R8)
          | (refine wpList_load_rec rfl _ _ rfl (w.heap.size + 1) rfl _ 24 stateT R8 rfl ?_)
          | (refine wpList_store_rec rfl _ _ _ rfl (w.heap.size + 1) (stC { x with p := [], cl := x.cl ++ [⟨x.p, rule⟩] } (.slice none 0 0) (.slice A7 (nc + 1) c7) D2) _ rfl rfl 24 stateT R8 rfl rfl (stC_one rfl rfl hD2) ?_)
          | fail)
        have hF := R8.putAll (stC { x with p := [], cl := x.cl ++ [⟨x.p, rule⟩] } (.slice none 0 0) (.slice A7 (nc + 1) c7) D2) rfl
        refine bodyPost_ret (result_rec rfl rfl rfl stateT hF rfl) rfl ?_
        rw [HY2.out]
        have B7 := grown_below (bal B3 _) hg7 (own_mono HOC.out (Nat.le_of_lt hgA))
        have B8 := bset (bset B7 (p := ⟨w.heap.size + 1, 7, none⟩) (Nat.le_succ _) (.slice A7 (nc + 1) c7)) (p := ⟨w.heap.size + 1, 6, none⟩) (Nat.le_succ _) (.slice none 0 0)
        have hOP := own_below HOP.out b4
        have hOP2 : (w3.alloc (.cells (clc (⟨x.p, rule⟩, .slice Ap np cp)).toArray 65)).ownsRow w0.heap.size 63 5 (.slice Ap np cp) (Cl.mk x.p rule).p.length (sgs (Cl.mk x.p rule).p) := by
          show World.ownsRow _ _ _ _ _ x.p.length _
          rw [← HNP.out]; exact hOP
        have ho7 : StOwn w7 w0.heap.size { x with p := [], cl := x.cl ++ [⟨x.p, rule⟩] } (.slice none 0 0) (.slice A7 (nc + 1) c7) D2 := by
          refine ⟨own_nil, ?_, (own_below HO3.out.d b4).kept hg7 (own_ne (own_below HO3.out.d b4) HOC.out (by decide))⟩
          exact ClOwn.push HPS.out (fun p hp => own_below (HPO.out p hp) b4) hOP2 HOC.out hown7 hg7 HNC.out.symm
        exact ⟨_, _, _, rfl, (((ho7.setCell hgR _ _).setCell hgR _ _).setCells hgR _ _).mono (Nat.le_of_lt hgA), below_setCells (Nat.le_succ w.heap.size) _ 0 _ B8⟩
end Go.Proofs.YtdfkbbcoolgfiaaGreat

namespace Go.Proofs.YtdfkbbcoolgfiaaGreat
open Go.RowKit Go.BigFrame

/-- A mark. -/
structure It where
  kind : Int
  p : List Sg
  rule : Int
  wide : Int
  cap : Int
  join : Int
  iw : Int
  ih : Int
  ib : Int
  idt : ByteArray
  m : Mt
  r : Int
  g : Int
  b : Int
  a : Int
  cl : List Cl
def itC (y : It) (P C : Value) : List Value := [.int .i64 y.kind, P, .int .i64 y.rule, .int .i64 y.wide, .int .i64 y.cap, .int .i64 y.join, .int .i64 y.iw, .int .i64 y.ih, .int .i64 y.ib, .string y.idt,
  .int .i64 y.m.a, .int .i64 y.m.b, .int .i64 y.m.c, .int .i64 y.m.d, .int .i64 y.m.e, .int .i64 y.m.f, .int .u8 y.r, .int .u8 y.g, .int .u8 y.b, .int .u8 y.a, C]
def zeroI : It := ⟨0, [], 0, 0, 0, 0, 0, 0, 0, { data := #[] }, zeroM, 0, 0, 0, 0, []⟩
def fillI (x : St) (rule : Int) : It := ⟨1, x.p, rule, 0, 0, 0, 0, 0, 0, { data := #[] }, zeroM, x.r, x.g, x.b, x.a, x.cl⟩
def fillS (x : St) (rule : Int) : It × Int := if (mayS x && ruleB rule) = false then (zeroI, 1) else (fillI x rule, 0)
structure ItOwn (w : World) (B : Nat) (y : It) (P C : Value) : Prop where
  p : w.ownsRow B 63 5 P y.p.length (sgs y.p)
  c : ClOwn w B C y.cl
theorem ItOwn.mono {w : World} {B B' : Nat} {y : It} {P C : Value} (h : ItOwn w B y P C) (hb : B' ≤ B) : ItOwn w B' y P C := ⟨own_mono h.p hb, h.c.mono hb⟩
theorem ItOwn.below {w w' : World} {B : Nat} {y : It} {P C : Value} (h : ItOwn w B y P C) (hb : Below w.heap.size w w') : ItOwn w' B y P C := ⟨own_below h.p hb, h.c.below hb⟩
theorem ItOwn.setCells {w : World} {B g : Nat} {y : It} {P C : Value} (h : ItOwn w B y P C) (hg : g < B) (o : Nat) (vs : List Value) : ItOwn (w.setCells g o vs) B y P C := ⟨own_setCells hg _ _ _ h.p, ClOwn.setCells hg _ _ _ h.c⟩
theorem itT : RecT Tryz.prog 40 21 := ⟨_, Tryz.underlying40, rfl, by kernel_rfl⟩
theorem itC_one {y : It} {P C : Value} (hp : P.oneCell' = true) (hc : C.oneCell' = true) : ∀ v ∈ itC y P C, v.oneCell' = true := by
  intro v hv
  simp only [itC, List.mem_cons, List.not_mem_nil, or_false] at hv
  rcases hv with rfl | rfl | rfl | rfl | rfl | rfl | rfl | rfl | rfl | rfl | rfl | rfl | rfl | rfl | rfl | rfl | rfl | rfl | rfl | rfl | rfl <;> first | rfl | assumption
theorem zeroI_one : ∀ v ∈ itC zeroI (.slice none 0 0) (.slice none 0 0), v.oneCell' = true := itC_one rfl rfl
theorem zeroI_own (w : World) (B : Nat) : ItOwn w B zeroI (.slice none 0 0) (.slice none 0 0) := ⟨own_nil, ⟨[], rfl, own_nil, by simp⟩⟩
theorem zeroI_lit : (itC zeroI (.slice none 0 0) (.slice none 0 0)).toArray = #[.int .i64 0, .slice none 0 0, .int .i64 0, .int .i64 0, .int .i64 0, .int .i64 0, .int .i64 0, .int .i64 0, .int .i64 0, .string { data := #[] },
  .int .i64 0, .int .i64 0, .int .i64 0, .int .i64 0, .int .i64 0, .int .i64 0, .int .u8 0, .int .u8 0, .int .u8 0, .int .u8 0, .slice none 0 0] := rfl
theorem fillI_lit (x : St) (rule : Int) (P C : Value) : itC (fillI x rule) P C = [.int .i64 1, P, .int .i64 rule, .int .i64 0, .int .i64 0, .int .i64 0, .int .i64 0, .int .i64 0, .int .i64 0, .string { data := #[] },
  .int .i64 0, .int .i64 0, .int .i64 0, .int .i64 0, .int .i64 0, .int .i64 0, .int .u8 x.r, .int .u8 x.g, .int .u8 x.b, .int .u8 x.a, C] := rfl
set_option maxRecDepth 100000 in
set_option maxHeartbeats 4000000 in
theorem stFill_any (x : St) (P C D : Value) (rule : Int) (Y : It × Int) (w : World) (h : StAt w x P C D) (hY : fillS x rule = Y) : Calls Tryz.prog 7 #[.agg (stC x P C D).toArray, .int .i64 rule] w
    fun r w' => ∃ P' C', r = .returned (.tuple #[.agg (itC Y.1 P' C').toArray, .int .i64 Y.2]) ∧ ItOwn w' w.heap.size Y.1 P' C' ∧ Below w.heap.size w w' := by
  obtain ⟨w0, hw0⟩ : ∃ w0 : World, w0 = (w.alloc (.cells (stC x P C D).toArray 32)).alloc (.cells (itC zeroI (.slice none 0 0) (.slice none 0 0)).toArray 40) := ⟨_, rfl⟩
  have hB0 : Below w.heap.size w w0 := by rw [hw0]; exact bal (bal (Below.refl _ _) _) _
  have hA : BC w0 w.heap.size (stC x P C D) := by rw [hw0]; exact (BC.new (stC x P C D) 32 rfl).below (bal (Below.refl _ _) _)
  have hR : BC w0 (w.heap.size + 1) (itC zeroI (.slice none 0 0) (.slice none 0 0)) := by rw [hw0]; exact BC.new (w := w.alloc (.cells (stC x P C D).toArray 32)) _ 40 (by simp)
  have hgA := hA.lt
  have hgR := hR.lt
  have h0 := h.below hB0
  rw [zeroI_lit] at hw0
  have HY := Lib.hid hY
  have HM := Lib.hid fun W (hb : Below w0.heap.size w0 W) => stMay_any x P C D W (h0.below hb)
  have HCo := Lib.hid fun (hf : stFew x) W (hb : Below w0.heap.size w0 W) => copied_any x P C D W (h0.below hb) hf
  have HA := Lib.hid hA
  have HR := Lib.hid hR
  clear hY h0 h hA hR
  go_enter Tryz.func7, Tryz.ntmps7
  go_upto_region 1 with (fail)
  rw [← hw0]
  clear hw0
  go_wp2_with (first
    | (refine wpList_load_rec rfl _ _ rfl w.heap.size rfl _ 24 stateT HA.out rfl ?_)
    | fail)
  refine (HM.out _ (Below.refl _ _)).mono ?_; rintro e w1 ⟨rfl, hb1⟩
  have G1 := hb1
  have B1 := btr hB0 G1
  clear hb1
  cases hm : mayS x
  · have HY2 : Hid (Y = (zeroI, 1)) := Lib.hid (by rw [← HY.out]; unfold fillS; rw [hm]; simp)
    have hF := (HR.out.below G1).putAll (itC zeroI (.slice none 0 0) (.slice none 0 0)) rfl
    have hFB := below_setCells (Nat.le_succ w.heap.size) (itC zeroI (.slice none 0 0) (.slice none 0 0)) 0 _ (B1)
    go_wp2_with (first
      | (refine wpList_load_rec rfl _ _ rfl (w.heap.size + 1) rfl _ 21 itT (HR.out.below G1) rfl ?_)
      | (refine wpList_store_rec rfl _ _ _ rfl (w.heap.size + 1) (itC zeroI (.slice none 0 0) (.slice none 0 0)) _ rfl rfl 21 itT (HR.out.below G1) rfl rfl zeroI_one ?_)
      | fail)
    refine bodyPost_ret (result_rec rfl rfl rfl itT hF rfl) rfl ?_
    rw [HY2.out]
    exact ⟨_, _, rfl, zeroI_own _ _, hFB⟩
  · have HFEW := Lib.hid (mayS_few hm)
    go_wp2_with fail
    refine (stIsRule_any rule _).mono ?_; rintro e w' ⟨rfl, rfl⟩
    cases hru : ruleB rule
    · have HY2 : Hid (Y = (zeroI, 1)) := Lib.hid (by rw [← HY.out]; unfold fillS; rw [hm, hru]; simp)
      have hF := (HR.out.below G1).putAll (itC zeroI (.slice none 0 0) (.slice none 0 0)) rfl
      have hFB := below_setCells (Nat.le_succ w.heap.size) (itC zeroI (.slice none 0 0) (.slice none 0 0)) 0 _ (B1)
      go_wp2_with (first
        | (refine wpList_load_rec rfl _ _ rfl (w.heap.size + 1) rfl _ 21 itT (HR.out.below G1) rfl ?_)
        | (refine wpList_store_rec rfl _ _ _ rfl (w.heap.size + 1) (itC zeroI (.slice none 0 0) (.slice none 0 0)) _ rfl rfl 21 itT (HR.out.below G1) rfl rfl zeroI_one ?_)
        | fail)
      refine bodyPost_ret (result_rec rfl rfl rfl itT hF rfl) rfl ?_
      rw [HY2.out]
      exact ⟨_, _, rfl, zeroI_own _ _, hFB⟩
    · have HY2 : Hid (Y = (fillI x rule, 0)) := Lib.hid (by rw [← HY.out]; unfold fillS; rw [hm, hru]; simp)
      have A1 := HA.out.below G1
      have HC2 := Lib.hid (HCo.out HFEW.out)
      clear HY HCo hm hru
      go_wp2_with (first
        | (refine wpList_load_rec rfl _ _ rfl w.heap.size rfl _ 24 stateT A1 rfl ?_)
        | fail)
      refine (HC2.out _ G1).mono ?_; rintro e w2 ⟨P2, C2, D2, rfl, ho2, hb2⟩
      obtain ⟨Ap, cp, rfl⟩ := own_form ho2.p
      obtain ⟨Ac, cc, rfl, -⟩ := ho2.c.v
      obtain ⟨np, hnp⟩ : ∃ n, n = x.p.length := ⟨_, rfl⟩
      obtain ⟨nc, hnc⟩ : ∃ n, n = x.cl.length := ⟨_, rfl⟩
      rw [← hnp, ← hnc] at ho2 ⊢
      clear hnp hnc
      have G2 := btr G1 hb2
      have B2 := btr B1 hb2
      have A2 := HA.out.below G2
      have R2 := HR.out.below G2
      have hone2 := ho2.at.one
      have A3 := A2.putAll (stC x (.slice Ap np cp) (.slice Ac nc cc) D2) rfl
      have R3 := R2.apart (show w.heap.size + 1 ≠ w.heap.size by omega) 0 (stC x (.slice Ap np cp) (.slice Ac nc cc) D2)
      have B3 := below_setCells (Nat.le_refl w.heap.size) (stC x (.slice Ap np cp) (.slice Ac nc cc) D2) 0 _ B2
      have ho3 := (ho2.mono G1.size).setCells hgA 0 (stC x (.slice Ap np cp) (.slice Ac nc cc) D2)
      obtain ⟨w3, hw3⟩ : ∃ w3, w3 = w2.setCells w.heap.size 0 (stC x (.slice Ap np cp) (.slice Ac nc cc) D2) := ⟨_, rfl⟩
      rw [← hw3] at A3 B3 ho3 R3
      have HW3 := Lib.hid hw3
      clear hw3 ho2 hb2
      have a6 := A3.c 6 _ rfl
      have a7 := A3.c 7 _ rfl
      have a8 := A3.c 8 _ rfl
      have a9 := A3.c 9 _ rfl
      have a10 := A3.c 10 _ rfl
      have a11 := A3.c 11 _ rfl
      have hoI : ItOwn w3 w0.heap.size (fillI x rule) (.slice Ap np cp) (.slice Ac nc cc) := ⟨ho3.p, ho3.c⟩
      have honeI : ∀ v ∈ itC (fillI x rule) (.slice Ap np cp) (.slice Ac nc cc), v.oneCell' = true := itC_one rfl rfl
      have hF := R3.putAll (itC (fillI x rule) (.slice Ap np cp) (.slice Ac nc cc)) rfl
      have hFB := below_setCells (Nat.le_succ w.heap.size) (itC (fillI x rule) (.slice Ap np cp) (.slice Ac nc cc)) 0 _ B3
      have hFO := hoI.setCells hgR 0 (itC (fillI x rule) (.slice Ap np cp) (.slice Ac nc cc))
      go_wp2_with (first
        | (refine wpList_store_rec rfl _ _ _ rfl w.heap.size (stC x (.slice Ap np cp) (.slice Ac nc cc) D2) _ rfl rfl 24 stateT A2 rfl rfl hone2 ?_; rw [← HW3.out])
        | (refine wpList_store_rec rfl _ _ _ rfl (w.heap.size + 1) (itC (fillI x rule) (.slice Ap np cp) (.slice Ac nc cc)) _ rfl rfl 21 itT R3 rfl rfl honeI ?_)
        | fail)
      refine bodyPost_ret (result_rec rfl rfl rfl itT hF rfl) rfl ?_
      rw [HY2.out]
      exact ⟨_, _, rfl, hFO.mono (Nat.le_of_lt hgA), hFB⟩
end Go.Proofs.YtdfkbbcoolgfiaaGreat

namespace Go.Proofs.YtdfkbbcoolgfiaaGreat
open Go.RowKit Go.BigFrame

/-- A mark's lists read as .. -/
structure ItAt (w : World) (y : It) (P C : Value) : Prop where
  p : PathV w P y.p
  c : ClV w C y.cl
theorem ItAt.below {w w' : World} {y : It} {P C : Value} (h : ItAt w y P C) (hb : Below w.heap.size w w') : ItAt w' y P C := ⟨h.p.below hb, h.c.below hb⟩
theorem ItOwn.at {w : World} {B : Nat} {y : It} {P C : Value} (h : ItOwn w B y P C) : ItAt w y P C := ⟨own_pathV h.p, h.c.v⟩
def itFew (y : It) : Prop := y.p.length ≤ 1000 ∧ y.cl.length ≤ 1000 ∧ ∀ c ∈ y.cl, c.p.length ≤ 1000
set_option maxRecDepth 100000 in
theorem eql_im (a b c : Int) (s : ByteArray) (w : World) : (binOp .eql 34 (.agg #[.int .i64 a, .int .i64 b, .int .i64 c, .string s]) (.agg #[.int .i64 a, .int .i64 b, .int .i64 c, .string s])).run Tryz.prog w = .ok (.bool true) w := by
  simp [go_sem]
set_option maxRecDepth 100000 in
set_option maxHeartbeats 4000000 in
theorem helpItem_any (y : It) (P C P' C' : Value) (w : World) (h : ItAt w y P C) (k : ItAt w y P' C') (hf : itFew y) :
    Calls Tryz.prog 17 #[.agg (itC y P C).toArray, .agg (itC y P' C').toArray] w fun e w' => e = .returned (.bool true) ∧ Below w.heap.size w w' := by
  obtain ⟨w0, hw0⟩ : ∃ w0 : World, w0 = (w.alloc (.cells (itC y P C).toArray 40)).alloc (.cells (itC y P' C').toArray 40) := ⟨_, rfl⟩
  have hB0 : Below w.heap.size w w0 := by rw [hw0]; exact bal (bal (Below.refl _ _) _) _
  have hA : BC w0 w.heap.size (itC y P C) := by rw [hw0]; exact (BC.new (itC y P C) 40 rfl).below (bal (Below.refl _ _) _)
  have hK : BC w0 (w.heap.size + 1) (itC y P' C') := by rw [hw0]; exact BC.new (w := w.alloc (.cells (itC y P C).toArray 40)) _ 40 (by simp)
  have h0 := h.below hB0
  have k0 := k.below hB0
  clear h k
  obtain ⟨f1, f2, f3⟩ := hf
  obtain ⟨⟨Ap, cp, rfl, hp, hpc, hpm⟩, hcv⟩ := h0
  obtain ⟨Ac, cc, rfl, hc, hcc, hcm⟩ := hcv.sl
  obtain ⟨⟨Bp, bp, rfl, kp, kpc, kpm⟩, kcv⟩ := k0
  obtain ⟨Bc, bc, rfl, kc, kcc, kcm⟩ := kcv.sl
  clear hcv kcv
  have HM := Lib.hid fun W => eql_mat y.m y.m W
  rw [eqM_refl] at HM
  unfold mtv at HM
  have HO := Lib.hid fun W => eql_im y.iw y.ih y.ib y.idt W
  obtain ⟨np, hnp⟩ : ∃ n, n = y.p.length := ⟨_, rfl⟩
  obtain ⟨nc, hnc⟩ : ∃ n, n = y.cl.length := ⟨_, rfl⟩
  rw [← hnp] at hA hK hw0 hp kp f1 ⊢
  rw [← hnc] at hA hK hw0 f2 ⊢
  have HS1 := Lib.hid fun W (hb : Below w0.heap.size w0 W) => sameSg_any Ap Bp np np cp bp y.p W (by omega) (hp.below hb) (kp.below hb)
  have HS2 := Lib.hid fun W (hb : Below w0.heap.size w0 W) => helpClips_any Ac Bc nc cc bc y.cl W hnc (by omega) f3 (hc.below hb) (kc.below hb)
  have HA := Lib.hid hA
  have HK := Lib.hid hK
  have A := hA
  have K := hK
  have a0 := A.c 0 _ rfl
  have k0 := K.c 0 _ rfl
  have a1 := A.c 1 _ rfl
  have k1 := K.c 1 _ rfl
  clear hnp hnc hp kp f1 f2 f3 hA hK hc kc A K
  go_enter Tryz.func17, Tryz.ntmps17
  go_upto_region 1 with (fail)
  rw [← hw0]
  clear hw0
  go_wp2_with fail
  refine (HS1.out _ (Below.refl _ _)).mono ?_; rintro e w1 ⟨rfl, q1, hq1⟩
  have G1 : Below w0.heap.size w0 w1 := hq1 ▸ bdrewN (Below.refl w0.heap.size w0) q1
  clear hq1 a0 a1 k0 k1
  have A := HA.out.below G1
  have K := HK.out.below G1
  have a2 := A.c 2 _ rfl
  have k2 := K.c 2 _ rfl
  have a3 := A.c 3 _ rfl
  have k3 := K.c 3 _ rfl
  have a4 := A.c 4 _ rfl
  have k4 := K.c 4 _ rfl
  have a5 := A.c 5 _ rfl
  have k5 := K.c 5 _ rfl
  have a6 := A.c 6 _ rfl
  have k6 := K.c 6 _ rfl
  have a7 := A.c 7 _ rfl
  have k7 := K.c 7 _ rfl
  have a8 := A.c 8 _ rfl
  have k8 := K.c 8 _ rfl
  have a9 := A.c 9 _ rfl
  have k9 := K.c 9 _ rfl
  have a10 := A.c 10 _ rfl
  have k10 := K.c 10 _ rfl
  have a11 := A.c 11 _ rfl
  have k11 := K.c 11 _ rfl
  have a12 := A.c 12 _ rfl
  have k12 := K.c 12 _ rfl
  have a13 := A.c 13 _ rfl
  have k13 := K.c 13 _ rfl
  have a14 := A.c 14 _ rfl
  have k14 := K.c 14 _ rfl
  have a15 := A.c 15 _ rfl
  have k15 := K.c 15 _ rfl
  have a16 := A.c 16 _ rfl
  have k16 := K.c 16 _ rfl
  have a17 := A.c 17 _ rfl
  have k17 := K.c 17 _ rfl
  have a18 := A.c 18 _ rfl
  have k18 := K.c 18 _ rfl
  have a19 := A.c 19 _ rfl
  have k19 := K.c 19 _ rfl
  have a20 := A.c 20 _ rfl
  have k20 := K.c 20 _ rfl
  have hme := fun W => HM.out W
  have hoe := fun W => HO.out W
  clear A K
  go_wp2_with fail
  refine (HS2.out _ G1).mono ?_; rintro e w2 ⟨rfl, q2, hq2⟩
  have G2 : Below w0.heap.size w0 w2 := btr G1 (hq2 ▸ bdrewN (Below.refl w1.heap.size w1) q2)
  clear hq2 hme hoe
  go_wp2_with fail
  go_ret
  exact ⟨rfl, btr hB0 G2⟩
end Go.Proofs.YtdfkbbcoolgfiaaGreat
