/- The reference: fixes, point, with. -/
import Derived.Test.YtaadajadeemndaaStR1
import Derived.Test.YtaadajadeemndaaMRect
import Derived.Test.YtaadajadeemndaaMRefAdd
namespace Go.Proofs.Ytaadajadeemndaa
open Go.RowKit Go.BigFrame

set_option maxHeartbeats 400000 in
theorem rFixes_any (A : Option Addr) (n c : Nat) (zs : List Int) (w : World) (hm : n ≤ 1000000) (h : Sl w 1 A n (ints zs)) :
    Calls Try.prog 48 #[.slice A n c] w fun e w' => e = .returned (.bool (zs.all fixB)) ∧ w = w' := by
  have hl : zs.length = n := by have := h.1; simpa [ints] using this
  go_enter Try.func48, Try.ntmps48
  go_wp2
  go_loop [3] (fun i => ∃ k : Nat, k ≤ n ∧ i = .int .i64 k ∧ Hid ((zs.take k).all fixB = true)) (fun i => n - (intOf i).toNat)
  case atStart => exact ⟨0, Nat.zero_le _, rfl, by simp [Hid]⟩
  case round =>
    obtain ⟨k, hk, rfl, hn⟩ := hrel
    by_cases hlt : k < n
    · obtain ⟨b, off, rfl, hb, hc⟩ := h.2 (by omega)
      obtain ⟨z, hz⟩ : ∃ z, z = zs[k]'(by omega) := ⟨_, rfl⟩
      have hx : w.cell? ⟨b, off + k, none⟩ = some (.int .i64 z) := hc k _ (by simp [ints, hz, List.getElem?_eq_getElem (show k < zs.length by omega)])
      have HZ := Lib.hid hz
      clear hc hz
      go_wp2_with fail
      refine (rIsFix_any z _).mono ?_; rintro e w' ⟨rfl, rfl⟩
      cases hf : fixB z
      · go_wp2_with fail
        try rw [Exit.noGoto_ret]
        go_ret; refine ⟨ret_bool ?_, rfl⟩; rw [all_out fixB zs k (by omega) (by rw [← HZ.out]; exact hf)]
      · go_wp2_with fail
        go_round
        case rel => exact ⟨k + 1, by omega, by go_num, by show List.all _ _ = true; rw [all_take fixB zs k (by omega), hn.out, ← HZ.out, hf]; rfl⟩
        case measure => simp [intOf]; omega
    · go_wp2
      go_ret
      refine ⟨ret_bool ?_, rfl⟩
      have := hn.out
      rw [List.take_of_length_le (by omega)] at this
      exact this.symm
set_option maxRecDepth 100000 in
set_option maxHeartbeats 4000000 in
theorem rPointS_any (x : St) (P C D : Value) (u v : Int) (d : Bool) (w : World) (h : StAt w x P C D) (hf : stFew x) : Calls Try.prog 49 #[.agg (stC x P C D).toArray, .int .i64 u, .int .i64 v, .bool d] w
    fun r w' => r = .returned (vP (pointS x.m x.p u v d)) ∧ Below w.heap.size w w' := by
  obtain ⟨w0, hw0⟩ : ∃ w0 : World, w0 = w.alloc (.cells (stC x P C D).toArray 34) := ⟨_, rfl⟩
  have hB0 : Below w.heap.size w w0 := by rw [hw0]; exact bal (Below.refl _ _) _
  have hA : BC w0 w.heap.size (stC x P C D) := by rw [hw0]; exact BC.new (stC x P C D) 34 rfl
  have h0 := h.below hB0
  obtain ⟨Ap, cp, rfl, hp, hpc, hpm⟩ := h0.p
  obtain ⟨np, hnp⟩ : ∃ n, n = x.p.length := ⟨_, rfl⟩
  have HP := Lib.hid fun W => rPoint_any x.m u v W
  have HV := Lib.hid fun W => rVector_any x.m u v W
  have hbd := base_bd x.p
  have hvd := vector_bd x.m u v
  have hfp := hf.1
  rw [← hnp] at hA hw0 hp hfp h h0 ⊢
  unfold pointS baseL
  unfold baseL at hbd
  obtain ⟨⟨vx, vy, ve⟩, hv⟩ : ∃ p, vectorM x.m u v = p := ⟨_, rfl⟩
  obtain ⟨⟨bx, by0, ok⟩, hb0⟩ : ∃ p, ptL x.p = p := ⟨_, rfl⟩
  obtain ⟨⟨qx, qy, qe⟩, hq⟩ : ∃ p, pointM x.m u v = p := ⟨_, rfl⟩
  have HX := Lib.hid fun W (hb : Below w0.heap.size w0 W) => ref_Point_any Ap np cp x.p (bx, by0, ok) W (by omega) (hp.below hb) hb0
  rw [hv] at HV hvd ⊢
  rw [hb0] at hbd ⊢
  rw [hq] at HP ⊢
  unfold mtv vP at HP HV
  unfold vP
  simp only at HP HV HX hbd hvd ⊢
  obtain ⟨v1, v2, v3, v4⟩ := hvd
  clear hv hb0 hq h0 h hp hnp
  have c0 := hA.c 0 _ rfl
  have c1 := hA.c 1 _ rfl
  have c2 := hA.c 2 _ rfl
  have c3 := hA.c 3 _ rfl
  have c4 := hA.c 4 _ rfl
  have c5 := hA.c 5 _ rfl
  have c6 := hA.c 6 _ rfl
  go_enter Try.func49, Try.ntmps49
  go_upto_region 1 with (fail)
  rw [← hw0]
  clear hw0
  cases d
  · go_wp2_with fail
    refine (HP.out _).mono ?_; rintro e w1 ⟨rfl, hb1⟩
    go_wp2_with fail
    go_ret3
    exact ⟨rfl, btr hB0 hb1⟩
  · go_wp2_with fail
    refine (HX.out _ (Below.refl _ _)).mono ?_; rintro e w1 ⟨rfl, hb1⟩
    have B1 := btr hB0 hb1
    have hA1 := hA.below hb1
    clear c0 c1 c2 c3 c4 c5 c6 hA
    cases ok
    · go_wp2_with fail
      go_ret3
      exact ⟨rfl, B1⟩
    · obtain ⟨b1, b2, b3, b4⟩ := hbd
      simp only [if_true] at b1 b2 b3 b4
      have e1 : IntKind.i64.wrap (bx + vx) = vx + bx := by rw [Int.add_comm]; exact IntWalk.i64_in _ (by omega)
      have e2 : IntKind.i64.wrap (by0 + vy) = vy + by0 := by rw [Int.add_comm]; exact IntWalk.i64_in _ (by omega)
      have c0 := hA1.c 0 _ rfl
      have c1 := hA1.c 1 _ rfl
      have c2 := hA1.c 2 _ rfl
      have c3 := hA1.c 3 _ rfl
      have c4 := hA1.c 4 _ rfl
      have c5 := hA1.c 5 _ rfl
      go_wp2_with fail
      refine (HV.out _).mono ?_; rintro e w2 ⟨rfl, hb2⟩
      have B2 := btr B1 hb2
      clear c0 c1 c2 c3 c4 c5 hA1 hb1 hb2 B1
      by_cases hve : ve = 0
      · subst hve
        go_wp2_with fail
        refine (rIsCoord_any _ _).mono ?_; rintro e w' ⟨rfl, rfl⟩
        obtain ⟨i1, hi1⟩ : ∃ q, inB (vx + bx) (-8191) 8191 = q := ⟨_, rfl⟩
        try rw [hi1]
        cases i1
        · go_wp2_with fail
          go_ret3
          refine ⟨?_, B2⟩
          simp [hi1]
        · go_wp2_with fail
          refine (rIsCoord_any _ _).mono ?_; rintro e w' ⟨rfl, rfl⟩
          obtain ⟨i2, hi2⟩ : ∃ q, inB (vy + by0) (-8191) 8191 = q := ⟨_, rfl⟩
          try rw [hi2]
          cases i2
          · go_wp2_with fail
            go_ret3
            refine ⟨?_, B2⟩
            simp [hi1, hi2]
          · go_wp2_with fail
            go_ret3
            refine ⟨?_, B2⟩
            simp [hi1, hi2]
      · have he0 : (ve == 0) = false := by simp [hve]
        go_wp2_with fail
        go_ret3
        refine ⟨?_, B2⟩
        simp [hve]
set_option maxRecDepth 100000 in
set_option maxHeartbeats 4000000 in
theorem rWith_no (x : St) (P C D : Value) (A : Option Addr) (n c : Nat) (e : Int) (w : World) (h : StAt w x P C D) (he : e ≠ 0) : Calls Try.prog 51 #[.agg (stC x P C D).toArray, .slice A n c, .int .i64 e] w
    fun r w' => r = .returned (.tuple #[.agg (stC zeroS (.slice none 0 0) (.slice none 0 0) (.slice none 0 0)).toArray, .int .i64 e]) ∧ Below w.heap.size w w' := by
  obtain ⟨w0, hw0⟩ : ∃ w0 : World, w0 = (w.alloc (.cells (stC x P C D).toArray 34)).alloc (.cells (stC zeroS (.slice none 0 0) (.slice none 0 0) (.slice none 0 0)).toArray 34) := ⟨_, rfl⟩
  have hB0 : Below w.heap.size w w0 := by rw [hw0]; exact bal (bal (Below.refl _ _) _) _
  have hR : BC w0 (w.heap.size + 1) (stC zeroS (.slice none 0 0) (.slice none 0 0) (.slice none 0 0)) := by rw [hw0]; exact BC.new (w := w.alloc (.cells (stC x P C D).toArray 34)) _ 34 (by simp)
  have e0 : (e == 0) = false := by simp [he]
  have e1 : (e != 0) = true := by simp [he]
  have hF := hR.putAll (stC zeroS (.slice none 0 0) (.slice none 0 0) (.slice none 0 0)) rfl
  have hFB := below_setCells (Nat.le_succ w.heap.size) (stC zeroS (.slice none 0 0) (.slice none 0 0) (.slice none 0 0)) 0 _ hB0
  rw [zero_lit] at hw0
  clear he h
  go_enter Try.func51, Try.ntmps51
  go_upto_region 1 with (fail)
  rw [← hw0]
  clear hw0
  go_wp2_with (first
    | (refine wpList_store_rec rfl _ _ _ rfl (w.heap.size + 1) (stC zeroS (.slice none 0 0) (.slice none 0 0) (.slice none 0 0)) _ rfl rfl 24 stT hR rfl rfl zero_one ?_)
    | fail)
  refine bodyPost_ret (result_rec rfl rfl rfl stT hF rfl) rfl ?_
  exact ⟨rfl, hFB⟩
set_option maxRecDepth 100000 in
set_option maxHeartbeats 4000000 in
theorem rWith_ok (x : St) (P C D : Value) (A : Option Addr) (n c : Nat) (l : List Sg) (w : World) (h : StAt w x P C D) : Calls Try.prog 51 #[.agg (stC x P C D).toArray, .slice A n c, .int .i64 0] w
    fun r w' => r = .returned (.tuple #[.agg (stC { x with p := l } (.slice A n c) C D).toArray, .int .i64 0]) ∧ Below w.heap.size w w' := by
  obtain ⟨w0, hw0⟩ : ∃ w0 : World, w0 = (w.alloc (.cells (stC x P C D).toArray 34)).alloc (.cells (stC zeroS (.slice none 0 0) (.slice none 0 0) (.slice none 0 0)).toArray 34) := ⟨_, rfl⟩
  have hB0 : Below w.heap.size w w0 := by rw [hw0]; exact bal (bal (Below.refl _ _) _) _
  have hA : BC w0 w.heap.size (stC x P C D) := by rw [hw0]; exact (BC.new (stC x P C D) 34 rfl).below (bal (Below.refl _ _) _)
  have hR : BC w0 (w.heap.size + 1) (stC zeroS (.slice none 0 0) (.slice none 0 0) (.slice none 0 0)) := by rw [hw0]; exact BC.new (w := w.alloc (.cells (stC x P C D).toArray 34)) _ 34 (by simp)
  have f6 := hA.nf 6
  have k6 := hA.c 6 _ rfl
  have hone : ∀ v ∈ stC { x with p := l } (.slice A n c) C D, v.oneCell' = true := by
    obtain ⟨⟨_, _, rfl, _⟩, ⟨_, _, rfl, _⟩, ⟨_, _, rfl, _⟩⟩ := h
    exact stC_one rfl rfl rfl
  have hA4 := hA.set 6 (.slice A n c) (by show 6 < 24; omega)
  rw [stC_path x P C D _ l] at hA4
  have hR4 := hR.apart1 (show w.heap.size + 1 ≠ w.heap.size by omega) 6 (.slice A n c)
  have B4 := bset hB0 (p := ⟨w.heap.size, 6, none⟩) (Nat.le_refl _) (.slice A n c)
  obtain ⟨w4, hw4⟩ : ∃ w4, w4 = w0.setCell ⟨w.heap.size, 6, none⟩ (.slice A n c) := ⟨_, rfl⟩
  rw [← hw4] at hA4 hR4 B4
  have HW4 := Lib.hid hw4
  have hF := hR4.putAll (stC { x with p := l } (.slice A n c) C D) rfl
  have hFB := below_setCells (Nat.le_succ w.heap.size) (stC { x with p := l } (.slice A n c) C D) 0 _ B4
  rw [zero_lit] at hw0
  clear hw4 h
  go_enter Try.func51, Try.ntmps51
  go_upto_region 1 with (fail)
  rw [← hw0]
  clear hw0
  go_wp2_with (first
    | (rw [← HW4.out]; refine wpList_load_rec rfl _ _ rfl w.heap.size rfl _ 24 stT hA4 rfl ?_)
    | (refine wpList_store_rec rfl _ _ _ rfl (w.heap.size + 1) (stC { x with p := l } (.slice A n c) C D) _ rfl rfl 24 stT hR4 rfl rfl hone ?_)
    | fail)
  refine bodyPost_ret (result_rec rfl rfl rfl stT hF rfl) rfl ?_
  exact ⟨rfl, hFB⟩
end Go.Proofs.Ytaadajadeemndaa
