/- state.New, Move, Line, Concat. -/
import Derived.Test.YtdfkbbcoolgfiaaGreatMS7
import Derived.Test.YtdfkbbcoolgfiaaGreatMat3
namespace Go.Proofs.YtdfkbbcoolgfiaaGreat
open Go.RowKit Go.BigFrame

set_option maxRecDepth 100000 in
set_option maxHeartbeats 4000000 in
theorem stMove_any (x : St) (P C D : Value) (u v : Int) (d : Bool) (Y : St × Int) (w : World) (h : StAt w x P C D) (hY : toS (fun a b => startL x.p a b) x u v d = Y) : Calls Tryz.prog 22 #[.agg (stC x P C D).toArray, .int .i64 u, .int .i64 v, .bool d] w
    fun r w' => ∃ P' C' D', r = .returned (.tuple #[.agg (stC Y.1 P' C' D').toArray, .int .i64 Y.2]) ∧ StOwn w' w.heap.size Y.1 P' C' D' ∧ Below w.heap.size w w' := by
  obtain ⟨w0, hw0⟩ : ∃ w0 : World, w0 = (w.alloc (.cells (stC x P C D).toArray 32)).alloc (.cells (stC zeroS (.slice none 0 0) (.slice none 0 0) (.slice none 0 0)).toArray 32) := ⟨_, rfl⟩
  have hB0 : Below w.heap.size w w0 := by rw [hw0]; exact bal (bal (Below.refl _ _) _) _
  have hA : BC w0 w.heap.size (stC x P C D) := by rw [hw0]; exact (BC.new (stC x P C D) 32 rfl).below (bal (Below.refl _ _) _)
  have hR : BC w0 (w.heap.size + 1) (stC zeroS (.slice none 0 0) (.slice none 0 0) (.slice none 0 0)) := by rw [hw0]; exact BC.new (w := w.alloc (.cells (stC x P C D).toArray 32)) _ 32 (by simp)
  have hgA := hA.lt
  have hgR := hR.lt
  have h0 := h.below hB0
  rw [zero_lit] at hw0
  have HT := Lib.hid fun W (hb : Below w0.heap.size w0 W) => toStart_any x P C D u v d Y W (h0.below hb) hY
  have HR := Lib.hid hR
  clear hY h0 h hR
  go_enter Tryz.func22, Tryz.ntmps22
  go_upto_region 1 with (fail)
  rw [← hw0]
  clear hw0
  go_wp2_with (first
    | (refine wpList_load_rec rfl _ _ rfl w.heap.size rfl _ 24 stateT hA rfl ?_)
    | fail)
  refine (HT.out _ (Below.refl _ _)).mono ?_; rintro e w1 ⟨P1, C1, D1, rfl, ho1, hb1⟩
  have B1 := btr hB0 hb1
  have R1 := HR.out.below hb1
  have hone := ho1.at.one
  have hF := R1.putAll (stC Y.1 P1 C1 D1) rfl
  have hFB := below_setCells (Nat.le_succ w.heap.size) (stC Y.1 P1 C1 D1) 0 _ B1
  go_wp2_with (first
    | (refine wpList_store_rec rfl _ _ _ rfl (w.heap.size + 1) (stC Y.1 P1 C1 D1) _ rfl rfl 24 stateT R1 rfl rfl hone ?_)
    | fail)
  refine bodyPost_ret (result_rec rfl rfl rfl stateT hF rfl) rfl ?_
  exact ⟨P1, C1, D1, rfl, (ho1.setCells hgR _ _).mono (Nat.le_of_lt hgA), hFB⟩
/-- A new state. -/
def newS (h : Int) : St := ⟨devM h, [], [], 0, 0, 0, 255, 65536, 0, 0, [], 0, obZero, 65536⟩
set_option maxRecDepth 100000 in
set_option maxHeartbeats 4000000 in
theorem stNew_any (h : Int) (w : World) (h1 : 1 ≤ h) (h2 : h ≤ 64) : Calls Tryz.prog 21 #[.int .i64 h] w
    fun e w' => e = .returned (.tuple #[.agg (stC (newS h) (.slice none 0 0) (.slice none 0 0) (.slice none 0 0)).toArray, .int .i64 0]) ∧ Below w.heap.size w w' := by
  have HD := Lib.hid fun W => matDevice_any h W h1 h2
  unfold mtv at HD
  obtain ⟨w0, hw0⟩ : ∃ w0 : World, w0 = w.alloc (.cells (stC zeroS (.slice none 0 0) (.slice none 0 0) (.slice none 0 0)).toArray 32) := ⟨_, rfl⟩
  have hB0 : Below w.heap.size w w0 := by rw [hw0]; exact bal (Below.refl _ _) _
  have hS : BC w0 w.heap.size (stC zeroS (.slice none 0 0) (.slice none 0 0) (.slice none 0 0)) := by rw [hw0]; exact BC.new _ 32 rfl
  rw [zero_lit] at hw0
  obtain ⟨y, hy⟩ : ∃ y, newS h = y := ⟨_, rfl⟩
  have hym : devM h = y.m := by rw [← hy]; rfl
  have hyr : stC y (.slice none 0 0) (.slice none 0 0) (.slice none 0 0) = [.int .i64 y.m.a, .int .i64 y.m.b, .int .i64 y.m.c, .int .i64 y.m.d, .int .i64 y.m.e, .int .i64 y.m.f, .slice none 0 0, .slice none 0 0, .int .u8 0, .int .u8 0, .int .u8 0, .int .u8 255,
    .int .i64 65536, .int .i64 0, .int .i64 0, .slice none 0 0, .int .i64 0, .int .i64 0, .bool false, .int .i64 0, .int .i64 0, .int .i64 0, .string { data := #[] }, .int .i64 65536] := by rw [← hy]; rfl
  rw [hym] at HD
  rw [hy]
  clear hym hy
  have HYR := Lib.hid hyr
  clear hyr
  go_enter Tryz.func21, Tryz.ntmps21
  go_upto_region 1 with (fail)
  rw [← hw0]
  clear hw0
  go_wp2_with fail
  refine (HD.out _).mono ?_; rintro e w1 ⟨rfl, hb1⟩
  have B1 := btr hB0 hb1
  have hS1 := hS.below hb1
  have B2 : Below w.heap.size w (w1.alloc (.cells (mtC y.m).toArray 23)) := bal B1 _
  have hS2 := hS1.below (bal (Below.refl _ _) (.cells (mtC y.m).toArray 23))
  have hF := hS2.putAll (stC y (.slice none 0 0) (.slice none 0 0) (.slice none 0 0)) rfl
  have hFB := below_setCells (Nat.le_refl w.heap.size) (stC y (.slice none 0 0) (.slice none 0 0) (.slice none 0 0)) 0 _ B2
  have hone : ∀ v ∈ stC y (.slice none 0 0) (.slice none 0 0) (.slice none 0 0), v.oneCell' = true := stC_one rfl rfl rfl
  go_wp2_with (first
    | (refine wpList_store_rec rfl _ _ _ rfl w.heap.size (stC y (.slice none 0 0) (.slice none 0 0) (.slice none 0 0)) _ rfl (by rw [HYR.out]; rfl) 24 stateT hS2 rfl rfl hone ?_)
    | fail)
  refine bodyPost_ret (result_rec rfl rfl rfl stateT hF rfl) rfl ?_
  exact ⟨rfl, hFB⟩
end Go.Proofs.YtdfkbbcoolgfiaaGreat

namespace Go.Proofs.YtdfkbbcoolgfiaaGreat
open Go.RowKit Go.BigFrame

def concatS (x : St) (m : Mt) : St × Int :=
  if mayS x = false then (zeroS, 1) else if (mulM m x.m).2 ≠ 0 then (zeroS, (mulM m x.m).2) else ({ x with m := (mulM m x.m).1 }, 0)
theorem stC_mat (x : St) (P C D : Value) (m : Mt) : ((((((stC x P C D).set 0 (.int .i64 m.a)).set 1 (.int .i64 m.b)).set 2 (.int .i64 m.c)).set 3 (.int .i64 m.d)).set 4 (.int .i64 m.e)).set 5 (.int .i64 m.f) = stC { x with m := m } P C D := rfl
theorem BC.putM {w : World} {g : Nat} {C : List Value} (h : BC w g C) (hl : 6 ≤ C.length) (m : Mt) :
    BC (set6 w g m) g ((((((C.set 0 (.int .i64 m.a)).set 1 (.int .i64 m.b)).set 2 (.int .i64 m.c)).set 3 (.int .i64 m.d)).set 4 (.int .i64 m.e)).set 5 (.int .i64 m.f)) :=
  (((((h.set 0 (.int .i64 m.a) (by omega)).set 1 (.int .i64 m.b) (by simp; omega)).set 2 (.int .i64 m.c) (by simp; omega)).set 3 (.int .i64 m.d) (by simp; omega)).set 4 (.int .i64 m.e) (by simp; omega)).set 5 (.int .i64 m.f) (by simp; omega)
theorem StOwn.set6 {w : World} {B g : Nat} {x : St} {P C D : Value} (h : StOwn w B x P C D) (hg : g < B) (m : Mt) : StOwn (set6 w g m) B x P C D :=
  (((((h.setCell hg _ _).setCell hg _ _).setCell hg _ _).setCell hg _ _).setCell hg _ _).setCell hg _ _
theorem mtC_one (m : Mt) : ∀ v ∈ mtC m, v.oneCell' = true := by
  intro v hv
  simp only [mtC, List.mem_cons, List.not_mem_nil, or_false] at hv
  rcases hv with rfl | rfl | rfl | rfl | rfl | rfl <;> rfl
set_option maxRecDepth 100000 in
set_option maxHeartbeats 4000000 in
theorem stConcat_any (x : St) (P C D : Value) (m : Mt) (Y : St × Int) (w : World) (h : StAt w x P C D) (hmm : mtB m = true) (hY : concatS x m = Y) : Calls Tryz.prog 15 #[.agg (stC x P C D).toArray, mtv m] w
    fun r w' => ∃ P' C' D', r = .returned (.tuple #[.agg (stC Y.1 P' C' D').toArray, .int .i64 Y.2]) ∧ StOwn w' w.heap.size Y.1 P' C' D' ∧ Below w.heap.size w w' := by
  obtain ⟨w0, hw0⟩ : ∃ w0 : World, w0 = ((w.alloc (.cells (stC x P C D).toArray 32)).alloc (.cells (mtC m).toArray 23)).alloc (.cells (stC zeroS (.slice none 0 0) (.slice none 0 0) (.slice none 0 0)).toArray 32) := ⟨_, rfl⟩
  have hB0 : Below w.heap.size w w0 := by rw [hw0]; exact bal (bal (bal (Below.refl _ _) _) _) _
  have hA : BC w0 w.heap.size (stC x P C D) := by rw [hw0]; exact ((BC.new (stC x P C D) 32 rfl).below (bal (Below.refl _ _) _)).below (bal (Below.refl _ _) _)
  have hM : BC w0 (w.heap.size + 1) (mtC m) := by rw [hw0]; exact (BC.new (w := w.alloc (.cells (stC x P C D).toArray 32)) (mtC m) 23 (by simp)).below (bal (Below.refl _ _) _)
  have hR : BC w0 (w.heap.size + 1 + 1) (stC zeroS (.slice none 0 0) (.slice none 0 0) (.slice none 0 0)) := by rw [hw0]; exact BC.new (w := (w.alloc (.cells (stC x P C D).toArray 32)).alloc (.cells (mtC m).toArray 23)) _ 32 (by simp)
  have hgA := hA.lt
  have hgM := hM.lt
  have hgR := hR.lt
  have h0 := h.below hB0
  rw [zero_lit] at hw0
  have HAT := Lib.hid h
  have HMay := Lib.hid fun W (hb : Below w0.heap.size w0 W) => stMay_any x P C D W (h0.below hb)
  have HY := Lib.hid hY
  have H0 := Lib.hid h0
  have HA := Lib.hid hA
  have HR := Lib.hid hR
  have HMB := Lib.hid hM
  have HMM := Lib.hid hmm
  unfold mtC at hw0
  unfold mtv
  clear h h0 hY hA hR hM hmm
  go_enter Tryz.func15, Tryz.ntmps15
  go_upto_region 1 with (fail)
  rw [← hw0]
  clear hw0
  go_wp2_with (first
    | (refine wpList_load_rec rfl _ _ rfl w.heap.size rfl _ 24 stateT HA.out rfl ?_)
    | fail)
  refine (HMay.out _ (Below.refl _ _)).mono ?_; rintro e w1 ⟨rfl, hb1⟩
  have G1 := hb1
  have B1 := btr hB0 G1
  clear hb1
  cases hm : mayS x
  · have HY2 : Hid (Y = (zeroS, 1)) := Lib.hid (by rw [← HY.out]; unfold concatS; rw [hm]; simp)
    have hF := (HR.out.below G1).putAll (stC zeroS (.slice none 0 0) (.slice none 0 0) (.slice none 0 0)) rfl
    have hFB := below_setCells (show w.heap.size ≤ w.heap.size + 1 + 1 by omega) (stC zeroS (.slice none 0 0) (.slice none 0 0) (.slice none 0 0)) 0 _ (B1)
    go_wp2_with (first
      | (refine wpList_load_rec rfl _ _ rfl (w.heap.size + 1 + 1) rfl _ 24 stateT (HR.out.below G1) rfl ?_)
      | (refine wpList_store_rec rfl _ _ _ rfl (w.heap.size + 1 + 1) (stC zeroS (.slice none 0 0) (.slice none 0 0) (.slice none 0 0)) _ rfl rfl 24 stateT (HR.out.below G1) rfl rfl zero_one ?_)
      | fail)
    refine bodyPost_ret (result_rec rfl rfl rfl stateT hF rfl) rfl ?_
    rw [HY2.out]
    exact ⟨_, _, _, rfl, zero_own _ _, hFB⟩
  · have HFEW := Lib.hid (mayS_few hm)
    have hxm : mtB x.m = true := by simp only [mayS, Bool.and_eq_true] at hm; exact hm.1.1.1.1.1
    obtain ⟨n, hn⟩ : ∃ n, x.m = n := ⟨_, rfl⟩
    have HMul := Lib.hid fun W => matMul_any m x.m W HMM.out hxm
    obtain ⟨⟨q, qe⟩, hq⟩ : ∃ q, mulM m x.m = q := ⟨_, rfl⟩
    have HY3 : Hid (Y = if qe ≠ 0 then (zeroS, qe) else ({ x with m := q }, 0)) := Lib.hid (by rw [← HY.out]; unfold concatS; rw [hm, hq]; simp)
    rw [hq] at HMul
    unfold mtv at HMul
    simp only at HMul
    clear hq hxm HY hn n hm
    have A1 := HA.out.below G1
    have M1 := HMB.out.below G1
    have a0 := A1.c 0 _ rfl
    have a1 := A1.c 1 _ rfl
    have a2 := A1.c 2 _ rfl
    have a3 := A1.c 3 _ rfl
    have a4 := A1.c 4 _ rfl
    have a5 := A1.c 5 _ rfl
    have m0 := M1.c 0 _ rfl
    have m1 := M1.c 1 _ rfl
    have m2 := M1.c 2 _ rfl
    have m3 := M1.c 3 _ rfl
    have m4 := M1.c 4 _ rfl
    have m5 := M1.c 5 _ rfl
    go_wp2_with fail
    refine (HMul.out _).mono ?_; rintro e w2 ⟨rfl, hb2⟩
    have G2 := btr G1 hb2
    have B2 := btr B1 hb2
    have M2 := HMB.out.below G2
    have A2 := HA.out.below G2
    have R2 := HR.out.below G2
    clear a0 a1 a2 a3 a4 a5 m0 m1 m2 m3 m4 m5 A1 M1 hb2
    have M3 := M2.putAll (mtC q) rfl
    have A3 := A2.apart (show w.heap.size ≠ w.heap.size + 1 by omega) 0 (mtC q)
    have R3 := R2.apart (show w.heap.size + 1 + 1 ≠ w.heap.size + 1 by omega) 0 (mtC q)
    have B3 := below_setCells (show w.heap.size ≤ w.heap.size + 1 by omega) (mtC q) 0 _ B2
    have S3 : StAt (w2.setCells (w.heap.size + 1) 0 (mtC q)) x P C D := HAT.out.below B3
    obtain ⟨w3, hw3⟩ : ∃ w3, w3 = w2.setCells (w.heap.size + 1) 0 (mtC q) := ⟨_, rfl⟩
    rw [← hw3] at M3 A3 R3 B3 S3
    have HW3 := Lib.hid hw3
    have hsz3 : w0.heap.size ≤ w3.heap.size := by rw [hw3, setCells_size]; exact G2.size
    clear hw3
    have HCo := Lib.hid fun W (hb : Below w3.heap.size w3 W) => copied_any x P C D W (S3.below hb) HFEW.out
    by_cases hqe : qe = 0
    · subst hqe
      have HY2 : Hid (Y = ({ x with m := q }, 0)) := Lib.hid (by rw [HY3.out]; simp)
      go_wp2_with (first
        | (refine wpList_store_rec rfl _ _ _ rfl (w.heap.size + 1) (mtC q) _ rfl rfl 6 matT M2 rfl rfl (mtC_one q) ?_; rw [← HW3.out])
        | (refine wpList_load_rec rfl _ _ rfl w.heap.size rfl _ 24 stateT A3 rfl ?_)
        | fail)
      refine (HCo.out _ (Below.refl _ _)).mono ?_; rintro e w4 ⟨P4, C4, D4, rfl, ho4, hb4⟩
      have B4 := btr B3 hb4
      have R4 := R3.below hb4
      have M4 := M3.below hb4
      have hone4 := ho4.at.one
      have R5 := R4.putAll (stC x P4 C4 D4) rfl
      have M5 := M4.apart (show w.heap.size + 1 ≠ w.heap.size + 1 + 1 by omega) 0 (stC x P4 C4 D4)
      have B5 := below_setCells (show w.heap.size ≤ w.heap.size + 1 + 1 by omega) (stC x P4 C4 D4) 0 _ B4
      have ho5 := (ho4.mono hsz3).setCells hgR 0 (stC x P4 C4 D4)
      obtain ⟨w5, hw5⟩ : ∃ w5, w5 = w4.setCells (w.heap.size + 1 + 1) 0 (stC x P4 C4 D4) := ⟨_, rfl⟩
      rw [← hw5] at R5 M5 B5 ho5
      have HW5 := Lib.hid hw5
      clear hw5 hb4 ho4 B4 M4 B3 R3 A3 M3 S3
      have m0 := M5.c 0 _ rfl
      have m1 := M5.c 1 _ rfl
      have m2 := M5.c 2 _ rfl
      have m3 := M5.c 3 _ rfl
      have m4 := M5.c 4 _ rfl
      have m5 := M5.c 5 _ rfl
      have f0 := R5.nf 0
      have f1 := R5.nf 1
      have f2 := R5.nf 2
      have f3 := R5.nf 3
      have f4 := R5.nf 4
      have f5 := R5.nf 5
      have r0 := R5.c 0 _ rfl
      have r1 := R5.c 1 _ rfl
      have r2 := R5.c 2 _ rfl
      have r3 := R5.c 3 _ rfl
      have r4 := R5.c 4 _ rfl
      have r5 := R5.c 5 _ rfl
      have R6 := R5.putM (by show 6 ≤ 24; omega) q
      rw [stC_mat] at R6
      have B6 := set6_below B5 (show w.heap.size ≤ w.heap.size + 1 + 1 by omega) q
      have ho6 : StOwn (set6 w5 (w.heap.size + 1 + 1) q) w0.heap.size { x with m := q } P4 C4 D4 := by
        have := ho5.set6 hgR q
        exact ⟨this.p, this.c, this.d⟩
      obtain ⟨w6, hw6⟩ : ∃ w6, w6 = set6 w5 (w.heap.size + 1 + 1) q := ⟨_, rfl⟩
      rw [← hw6] at R6 B6 ho6
      unfold set6 at hw6
      have HW6 := Lib.hid hw6
      clear hw6
      have hone6 := ho6.at.one
      have hF := R6.putAll (stC { x with m := q } P4 C4 D4) rfl
      have hFB := below_setCells (show w.heap.size ≤ w.heap.size + 1 + 1 by omega) (stC { x with m := q } P4 C4 D4) 0 _ B6
      go_wp2_with (first
        | (refine wpList_store_rec rfl _ _ _ rfl (w.heap.size + 1 + 1) (stC x P4 C4 D4) _ rfl rfl 24 stateT R4 rfl rfl hone4 ?_; rw [← HW5.out])
        | (rw [← HW6.out]; refine wpList_load_rec rfl _ _ rfl (w.heap.size + 1 + 1) rfl _ 24 stateT R6 rfl ?_)
        | (refine wpList_store_rec rfl _ _ _ rfl (w.heap.size + 1 + 1) (stC { x with m := q } P4 C4 D4) _ rfl rfl 24 stateT R6 rfl rfl hone6 ?_)
        | fail)
      refine bodyPost_ret (result_rec rfl rfl rfl stateT hF rfl) rfl ?_
      rw [HY2.out]
      exact ⟨_, _, _, rfl, (ho6.setCells hgR _ _).mono (Nat.le_of_lt hgA), hFB⟩
    · have HY2 : Hid (Y = (zeroS, qe)) := Lib.hid (by rw [HY3.out]; simp [hqe])
      have he0 : (qe == 0) = false := by simp [hqe]
      have hF := R3.putAll (stC zeroS (.slice none 0 0) (.slice none 0 0) (.slice none 0 0)) rfl
      have hFB := below_setCells (show w.heap.size ≤ w.heap.size + 1 + 1 by omega) (stC zeroS (.slice none 0 0) (.slice none 0 0) (.slice none 0 0)) 0 _ B3
      go_wp2_with (first
        | (refine wpList_store_rec rfl _ _ _ rfl (w.heap.size + 1) (mtC q) _ rfl rfl 6 matT M2 rfl rfl (mtC_one q) ?_; rw [← HW3.out])
        | (refine wpList_load_rec rfl _ _ rfl (w.heap.size + 1 + 1) rfl _ 24 stateT R3 rfl ?_)
        | (refine wpList_store_rec rfl _ _ _ rfl (w.heap.size + 1 + 1) (stC zeroS (.slice none 0 0) (.slice none 0 0) (.slice none 0 0)) _ rfl rfl 24 stateT R3 rfl rfl zero_one ?_)
        | fail)
      refine bodyPost_ret (result_rec rfl rfl rfl stateT hF rfl) rfl ?_
      rw [HY2.out]
      exact ⟨_, _, _, rfl, zero_own _ _, hFB⟩
end Go.Proofs.YtdfkbbcoolgfiaaGreat
