/- state.with, base. -/
import Derived.Test.YtaadajadeemndaaSt5
import Derived.Test.YtaadajadeemndaaAdd
namespace Go.Proofs.Ytaadajadeemndaa
open Go.RowKit Go.BigFrame

def nilV : Value := .slice none 0 0
theorem zero_at (w : World) : StAt w zeroS (.slice none 0 0) (.slice none 0 0) (.slice none 0 0) := ⟨PathV.nil, ClV.nil, IntsV.nil⟩
theorem zero_own (w : World) (B : Nat) : StOwn w B zeroS (.slice none 0 0) (.slice none 0 0) (.slice none 0 0) := ⟨own_nil, ⟨[], rfl, own_nil, by simp⟩, own_nil⟩
theorem zero_one : ∀ v ∈ stC zeroS (.slice none 0 0) (.slice none 0 0) (.slice none 0 0), v.oneCell' = true := stC_one rfl rfl rfl
theorem zero_lit : (stC zeroS (.slice none 0 0) (.slice none 0 0) (.slice none 0 0)).toArray = #[.int .i64 0, .int .i64 0, .int .i64 0, .int .i64 0, .int .i64 0, .int .i64 0, .slice none 0 0, .slice none 0 0, .int .u8 0, .int .u8 0, .int .u8 0, .int .u8 0, .int .i64 0, .int .i64 0, .int .i64 0, .slice none 0 0,
  .int .i64 0, .int .i64 0, .bool false, .int .i64 0, .int .i64 0, .int .i64 0, .string { data := #[] }, .int .i64 0] := rfl
set_option maxRecDepth 100000 in
set_option maxHeartbeats 4000000 in
theorem with_no (x : St) (P C D : Value) (A : Option Addr) (n c : Nat) (e : Int) (w : World) (h : StAt w x P C D) (he : e ≠ 0) : Calls Try.prog 56 #[.agg (stC x P C D).toArray, .slice A n c, .int .i64 e] w
    fun r w' => r = .returned (.tuple #[.agg (stC zeroS (.slice none 0 0) (.slice none 0 0) (.slice none 0 0)).toArray, .int .i64 e]) ∧ Below w.heap.size w w' := by
  obtain ⟨w0, hw0⟩ : ∃ w0 : World, w0 = (w.alloc (.cells (stC x P C D).toArray 34)).alloc (.cells (stC zeroS (.slice none 0 0) (.slice none 0 0) (.slice none 0 0)).toArray 34) := ⟨_, rfl⟩
  have hB0 : Below w.heap.size w w0 := by rw [hw0]; exact bal (bal (Below.refl _ _) _) _
  have hR : BC w0 (w.heap.size + 1) (stC zeroS (.slice none 0 0) (.slice none 0 0) (.slice none 0 0)) := by rw [hw0]; exact BC.new (w := w.alloc (.cells (stC x P C D).toArray 34)) _ 34 (by simp)
  obtain ⟨⟨Ap, cp, rfl, -⟩, ⟨Ac, cc, rfl, -⟩, ⟨Ad, cd, rfl, -⟩⟩ := h
  obtain ⟨np, hnp⟩ : ∃ n, n = x.p.length := ⟨_, rfl⟩
  obtain ⟨nc, hnc⟩ : ∃ n, n = x.cl.length := ⟨_, rfl⟩
  obtain ⟨nd, hnd⟩ : ∃ n, n = x.da.length := ⟨_, rfl⟩
  rw [← hnp, ← hnc, ← hnd] at hw0 ⊢
  clear hnp hnc hnd
  have HE := Lib.hid he
  have e0 : (e == 0) = false := by simp [he]
  have e1 : (e != 0) = true := by simp [he]
  have hF := hR.putAll (stC zeroS (.slice none 0 0) (.slice none 0 0) (.slice none 0 0)) rfl
  have hFB := below_setCells (Nat.le_succ w.heap.size) (stC zeroS (.slice none 0 0) (.slice none 0 0) (.slice none 0 0)) 0 _ hB0
  have hw0' := hw0
  unfold stC zeroS zeroM obZero at hw0'
  simp only at hw0'
  unfold stC
  go_enter Try.func56, Try.ntmps56
  go_upto_region 1 with (fail)
  rw [← hw0']
  clear hw0' hw0
  go_wp2_with (first
    | (refine wpList_store_rec rfl _ _ _ rfl (w.heap.size + 1) (stC zeroS (.slice none 0 0) (.slice none 0 0) (.slice none 0 0)) _ rfl rfl 24 stT hR rfl rfl zero_one ?_)
    | fail)
  refine bodyPost_ret (result_rec rfl rfl rfl stT hF rfl) rfl ?_
  exact ⟨rfl, hFB⟩
theorem stC_path (x : St) (P C D P' : Value) (l : List Sg) : (stC x P C D).set 6 P' = stC { x with p := l } P' C D := rfl
set_option maxRecDepth 100000 in
set_option maxHeartbeats 4000000 in
theorem with_ok (x : St) (P C D : Value) (A : Option Addr) (n c : Nat) (l : List Sg) (w : World) (h : StAt w x P C D) (hf : stFew x) (hl : Sl w 5 A n (sgs l)) (hn : n ≤ 1000) : Calls Try.prog 56 #[.agg (stC x P C D).toArray, .slice A n c, .int .i64 0] w
    fun r w' => ∃ P' C' D', r = .returned (.tuple #[.agg (stC { x with p := l } P' C' D').toArray, .int .i64 0]) ∧ StOwn w' w.heap.size { x with p := l } P' C' D' ∧ Below w.heap.size w w' := by
  obtain ⟨w0, hw0⟩ : ∃ w0 : World, w0 = (w.alloc (.cells (stC x P C D).toArray 34)).alloc (.cells (stC zeroS (.slice none 0 0) (.slice none 0 0) (.slice none 0 0)).toArray 34) := ⟨_, rfl⟩
  have hB0 : Below w.heap.size w w0 := by rw [hw0]; exact bal (bal (Below.refl _ _) _) _
  have hA : BC w0 w.heap.size (stC x P C D) := by rw [hw0]; exact (BC.new (stC x P C D) 34 rfl).below (bal (Below.refl _ _) _)
  have hR : BC w0 (w.heap.size + 1) (stC zeroS (.slice none 0 0) (.slice none 0 0) (.slice none 0 0)) := by rw [hw0]; exact BC.new (w := w.alloc (.cells (stC x P C D).toArray 34)) _ 34 (by simp)
  have hgA := hA.lt
  have hgR := hR.lt
  have h0 := h.below hB0
  have hone := h0.one
  have H0 := Lib.hid fun W (hb : Below w0.heap.size w0 W) => copied_any x P C D W (h0.below hb) hf
  have hl0 := hl.below hB0
  obtain ⟨⟨Ap, cp, rfl, -⟩, ⟨Ac, cc, rfl, -⟩, ⟨Ad, cd, rfl, -⟩⟩ := h
  obtain ⟨np, hnp⟩ : ∃ n, n = x.p.length := ⟨_, rfl⟩
  obtain ⟨nc, hnc⟩ : ∃ n, n = x.cl.length := ⟨_, rfl⟩
  obtain ⟨nd, hnd⟩ : ∃ n, n = x.da.length := ⟨_, rfl⟩
  rw [← hnp, ← hnc, ← hnd] at hw0 hA hone H0 ⊢
  have HLL : Hid (l.length = n) := Lib.hid (by have := hl.1; rw [sgs_len] at this; omega)
  clear hnp hnc hnd h0
  rw [zero_lit] at hw0
  go_enter Try.func56, Try.ntmps56
  go_upto_region 1 with (fail)
  rw [← hw0]
  clear hw0
  go_wp2_with (first
    | (refine wpList_load_rec rfl _ _ rfl w.heap.size rfl _ 24 stT hA rfl ?_)
    | fail)
  refine (H0.out _ (Below.refl _ _)).mono ?_; rintro e w1 ⟨P1, C1, D1, rfl, ho1, hb1⟩
  have hA1 := hA.below hb1
  have hR1 := hR.below hb1
  have hl1 := hl0.below hb1
  have B1 := btr hB0 hb1
  have hA2 := hA1.putAll (stC x P1 C1 D1) rfl
  have hR2 := hR1.apart (show w.heap.size + 1 ≠ w.heap.size by omega) 0 (stC x P1 C1 D1)
  have B2 := below_setCells (Nat.le_refl w.heap.size) (stC x P1 C1 D1) 0 _ B1
  have ho2 := ho1.setCells hgA 0 (stC x P1 C1 D1)
  have hl2 := hl.below B2
  have hone2 : ∀ v ∈ stC x P1 C1 D1, v.oneCell' = true := ho1.at.one
  obtain ⟨w2, hw2⟩ : ∃ w2, w2 = w1.setCells w.heap.size 0 (stC x P1 C1 D1) := ⟨_, rfl⟩
  rw [← hw2] at hA2 hR2 B2 ho2 hl2
  have hb1' := hb1
  have HW2 := Lib.hid hw2
  clear hw2 hR1 hl1 B1 ho1 hb1 hl0 hR
  go_wp2_with (first
    | (refine wpList_store_rec rfl _ _ _ rfl w.heap.size (stC x P1 C1 D1) _ rfl rfl 24 stT hA1 rfl rfl hone2 ?_; rw [← HW2.out])
    | fail)
  refine (ownSeg_any A n c (sgs l) _ hl2 (oneCell_sgs _) (by omega)).mono ?_; rintro e w3 ⟨A3, c3, rfl, ho3, hb3⟩
  have hA3 := hA2.below hb3
  have f6 := hA3.nf 6
  have k6 := hA3.c 6 _ rfl
  have hR3 := hR2.below hb3
  have B3 := btr B2 hb3
  have hgs : w0.heap.size ≤ w2.heap.size := by rw [HW2.out, setCells_size]; have := hb1'.size; omega
  have hA4 := hA3.set 6 (.slice A3 n c3) (by show 6 < 24; omega)
  rw [stC_path x P1 C1 D1 _ l] at hA4
  have hR4 := hR3.apart1 (show w.heap.size + 1 ≠ w.heap.size by omega) 6 (.slice A3 n c3)
  have B4 := bset B3 (p := ⟨w.heap.size, 6, none⟩) (Nat.le_refl _) (.slice A3 n c3)
  have ho4 : StOwn (w3.setCell ⟨w.heap.size, 6, none⟩ (.slice A3 n c3)) w0.heap.size { x with p := l } (.slice A3 n c3) C1 D1 := by
    have h2 := (ho2.below hb3).setCell hgA 6 (.slice A3 n c3)
    refine ⟨?_, h2.c, h2.d⟩
    show World.ownsRow _ _ _ _ _ l.length _
    rw [HLL.out]
    exact own_mono (own_setCell ho3 (Nat.lt_of_lt_of_le hgA hgs) 6 _) hgs
  obtain ⟨w4, hw4⟩ : ∃ w4, w4 = w3.setCell ⟨w.heap.size, 6, none⟩ (.slice A3 n c3) := ⟨_, rfl⟩
  rw [← hw4] at hA4 hR4 B4 ho4
  have HW4 := Lib.hid hw4
  clear hw4 hR2 hR3 B2 B3 ho2 hl2 hone2 hone
  have hone4 : ∀ v ∈ stC { x with p := l } (.slice A3 n c3) C1 D1, v.oneCell' = true := ho4.at.one
  have hF := hR4.putAll (stC { x with p := l } (.slice A3 n c3) C1 D1) rfl
  have hFB := below_setCells (Nat.le_succ w.heap.size) (stC { x with p := l } (.slice A3 n c3) C1 D1) 0 _ B4
  go_wp2_with (first
    | (rw [← HW4.out]; refine wpList_load_rec rfl _ _ rfl w.heap.size rfl _ 24 stT hA4 rfl ?_)
    | (refine wpList_store_rec rfl _ _ _ rfl (w.heap.size + 1) (stC { x with p := l } (.slice A3 n c3) C1 D1) _ rfl rfl 24 stT hR4 rfl rfl hone4 ?_)
    | fail)
  refine bodyPost_ret (result_rec rfl rfl rfl stT hF rfl) rfl ?_
  exact ⟨_, _, _, rfl, (ho4.setCells hgR _ _).mono (Nat.le_of_lt hgA), hFB⟩
end Go.Proofs.Ytaadajadeemndaa
