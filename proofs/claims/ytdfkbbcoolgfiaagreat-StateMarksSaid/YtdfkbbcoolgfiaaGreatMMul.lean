/- The reference's Mul. -/
import Derived.Test.YtdfkbbcoolgfiaaGreatMat3
import Derived.Test.YtdfkbbcoolgfiaaGreatMSt
import Derived.Test.YtdfkbbcoolgfiaaGreatMCls
import Derived.Test.YtdfkbbcoolgfiaaGreatAllP
namespace Go.Proofs.YtdfkbbcoolgfiaaGreat
open Go.RowKit Go.BigFrame

theorem matT2 : RecT Tryz.prog 23 6 := ⟨_, Tryz.underlying23, rfl, by kernel_rfl⟩
theorem mtC_oneR (m : Mt) : ∀ v ∈ mtC m, v.oneCell' = true := by
  intro v hv
  simp only [mtC, List.mem_cons, List.not_mem_nil, or_false] at hv
  rcases hv with rfl | rfl | rfl | rfl | rfl | rfl <;> rfl
def heldM (m : Mt) : Mt × Int := if mtB m then (m, 0) else (zeroM, 2)
/-- Of matrices whatever. -/
def mulB (m n : Mt) : Mt × Int := if mtB m && mtB n then mulM m n else (zeroM, 1)
theorem rnd_one {a : Int} : rndM 65536 32768 (65536 * a) = a := by
  unfold rndM
  have h1 : 65536 * a / 65536 = a := by omega
  rw [h1, if_neg (by omega)]
theorem prod_one_l (n : Mt) : prodM oneM n = n := by
  have h0 : rndM 65536 32768 0 = 0 := by decide
  unfold prodM oneM
  simp [rnd_one, h0]
theorem prod_one_r (m : Mt) : prodM m oneM = m := by
  unfold prodM oneM
  simp [Int.mul_comm _ 65536, rnd_one]
theorem mul_held {m n : Mt} (hm : mtB m = true) (hn : mtB n = true) : mulM m n = heldM (prodM m n) := by
  unfold mulM
  cases h1 : eqM m oneM
  · cases h2 : eqM n oneM
    · rfl
    · have := eqM_iff.1 h2
      subst this
      rw [if_neg (by simp), if_pos rfl, prod_one_r]
      unfold heldM
      rw [hm]; rfl
  · have := eqM_iff.1 h1
    subst this
    rw [if_pos rfl, prod_one_l]
    unfold heldM
    rw [hn]; rfl
set_option maxRecDepth 100000 in
set_option maxHeartbeats 1000000 in
theorem rEven16_any (n : Int) (w : World) (hn : -4611686018427387904 ≤ n ∧ n ≤ 4611686018427387904) : Calls Tryz.prog 89 #[.int .i64 n, .int .i64 16] w fun e w' => e = .returned (.int .i64 (rndM 65536 32768 n)) ∧ w = w' := by
  obtain ⟨q, hq⟩ : ∃ q, n / 65536 = q := ⟨_, rfl⟩
  obtain ⟨R, hR⟩ : ∃ R, rndM 65536 32768 n = R := ⟨_, rfl⟩
  have hR2 : R = if n - q * 65536 > 32768 ∨ (n - q * 65536 = 32768 ∧ q % 2 = 1) then q + 1 else q := by rw [← hR, ← hq]; rfl
  rw [hR]
  have HR := Lib.hid hR2
  clear hR hR2
  go_enter Tryz.func89, Tryz.ntmps89
  have ha := and1M q
  go_wp2
  all_goals
    go_ret
    refine ⟨ret_int ?_, rfl⟩
    rw [HR.out]
    clear HR
    split <;> first | rfl | (exfalso; simp_all; done) | (exfalso; simp_all; omega) | (exfalso; omega)
set_option maxRecDepth 100000 in
set_option maxHeartbeats 1000000 in
theorem rIn_any (m : Mt) (R : Mt × Int) (w : World) (hR : heldM m = R) : Calls Tryz.prog 88 #[mtv m] w fun e w' => e = .returned (.tuple #[mtv R.1, .int .i64 R.2]) ∧ Below w.heap.size w w' := by
  obtain ⟨w0, hw0⟩ : ∃ w0 : World, w0 = (w.alloc (.cells (mtC m).toArray 23)).alloc (.cells (mtC zeroM).toArray 23) := ⟨_, rfl⟩
  have hB0 : Below w.heap.size w w0 := by rw [hw0]; exact bal (bal (Below.refl _ _) _) _
  have hA : BC w0 w.heap.size (mtC m) := by rw [hw0]; exact (BC.new (mtC m) 23 rfl).below (bal (Below.refl _ _) _)
  have hZ : BC w0 (w.heap.size + 1) (mtC zeroM) := by rw [hw0]; exact BC.new (w := w.alloc (.cells (mtC m).toArray 23)) (mtC zeroM) 23 (by simp)
  have HM := Lib.hid fun W => rMay_any m W
  have HR := Lib.hid hR
  have hvm : mtv m = .agg (mtC m).toArray := rfl
  rw [hvm] at HM ⊢
  have hz6 : (mtC zeroM).toArray = #[.int .i64 0, .int .i64 0, .int .i64 0, .int .i64 0, .int .i64 0, .int .i64 0] := rfl
  rw [hz6] at hw0
  clear hR hvm hz6
  go_enter Tryz.func88, Tryz.ntmps88
  go_upto_region 1 with (fail)
  rw [← hw0]
  clear hw0
  go_wp2_with (first
    | (refine wpList_load_rec rfl _ _ rfl w.heap.size rfl _ 6 matT2 hA rfl ?_)
    | fail)
  refine (HM.out _).mono ?_; rintro e w1 ⟨rfl, hb1⟩
  have B1 := btr hB0 hb1
  have hA1 := hA.below hb1
  have hZ1 := hZ.below hb1
  clear hA hZ hb1
  cases hm : mtB m
  · have HR2 : Hid (R = (zeroM, 2)) := Lib.hid (by rw [← HR.out]; unfold heldM; rw [hm]; rfl)
    have hF := hZ1.putAll (mtC zeroM) rfl
    have hFB := below_setCells (Nat.le_succ w.heap.size) (mtC zeroM) 0 _ B1
    go_wp2_with (first
      | (refine wpList_store_rec rfl _ _ _ rfl (w.heap.size + 1) (mtC zeroM) _ rfl rfl 6 matT2 hZ1 rfl rfl (mtC_oneR _) ?_)
      | fail)
    refine bodyPost_ret (result_rec rfl rfl rfl matT2 hF rfl) rfl ?_
    rw [HR2.out]
    exact ⟨rfl, hFB⟩
  · have HR2 : Hid (R = (m, 0)) := Lib.hid (by rw [← HR.out]; unfold heldM; rw [hm]; rfl)
    have hF := hZ1.putAll (mtC m) rfl
    have hFB := below_setCells (Nat.le_succ w.heap.size) (mtC m) 0 _ B1
    go_wp2_with (first
      | (refine wpList_load_rec rfl _ _ rfl w.heap.size rfl _ 6 matT2 hA1 rfl ?_)
      | (refine wpList_store_rec rfl _ _ _ rfl (w.heap.size + 1) (mtC m) _ rfl rfl 6 matT2 hZ1 rfl rfl (mtC_oneR _) ?_)
      | fail)
    refine bodyPost_ret (result_rec rfl rfl rfl matT2 hF rfl) rfl ?_
    rw [HR2.out]
    exact ⟨rfl, hFB⟩
end Go.Proofs.YtdfkbbcoolgfiaaGreat

namespace Go.Proofs.YtdfkbbcoolgfiaaGreat
open Go.RowKit Go.BigFrame

theorem wpList_load_rec_g2 {P : Program} {ops : Array Oper} {rest : List Oper} {op : Oper} {a : Act} {w : World} {Q : Exit → Act → World → Prop} (hgd : Region.wanted op (yielded ops a.tmps) = true) (t : TypeId) (x : Operand) (ho : op.op = .load t x) (g : Nat)
    (hx : a.eval x = .pointer (some ⟨g, 0, none⟩)) (C : List Value) (n : Nat) (hT : RecT P t n) (h : BC w g C) (hn : C.length = n)
    (hk : wpList P ops Q rest (a.put op.dst (.agg C.toArray)) w) : wpList P ops Q (op :: rest) a w := by
  obtain ⟨d, hu, hd, hi⟩ := hT
  exact wpList_step fun K hK => by
    rw [if_pos hgd]
    exact wp_load_mid t x ho g 0 hx C d h.range hu hd (by rw [hi, hn]) (hK _ _ hk)
theorem add4_in {s e : Int} (h1 : -4611686018427387904 ≤ s) (h2 : s ≤ 4611686018427387904) (he : fixB e = true) : IntKind.i64.wrap (rndM 65536 32768 s + e) = rndM 65536 32768 s + e := by
  have h3 := rndM_le (p := 65536) (h := 32768) (n := s) (by omega)
  rw [fixB_iff] at he
  exact IntWalk.i64_in _ (by omega)
theorem sum4_bd {a b c d : Int} (ha : fixB a = true) (hb : fixB b = true) (hc : fixB c = true) (hd : fixB d = true) :
    -4611686018427387904 ≤ a * b + c * d ∧ a * b + c * d ≤ 4611686018427387904 ∧ IntKind.i64.wrap (a * b) = a * b ∧ IntKind.i64.wrap (c * d) = c * d ∧ IntKind.i64.wrap (a * b + c * d) = a * b + c * d := by
  have h1 := mul_fix ha hb
  have h2 := mul_fix hc hd
  generalize a * b = x at *
  generalize c * d = y at *
  exact ⟨by omega, by omega, IntWalk.i64_in _ (by omega), IntWalk.i64_in _ (by omega), IntWalk.i64_in _ (by omega)⟩
set_option maxRecDepth 100000 in
set_option maxHeartbeats 8000000 in
theorem rMul_any (m n : Mt) (R : Mt × Int) (w : World) (hRR : mulB m n = R) : Calls Tryz.prog 41 #[mtv m, mtv n] w fun e w' => e = .returned (.tuple #[mtv R.1, .int .i64 R.2]) ∧ Below w.heap.size w w' := by
  obtain ⟨w0, hw0⟩ : ∃ w0 : World, w0 = ((w.alloc (.cells (mtC m).toArray 23)).alloc (.cells (mtC n).toArray 23)).alloc (.cells (mtC zeroM).toArray 23) := ⟨_, rfl⟩
  have hB0 : Below w.heap.size w w0 := by rw [hw0]; exact bal (bal (bal (Below.refl _ _) _) _) _
  have hA : BC w0 w.heap.size (mtC m) := by rw [hw0]; exact ((BC.new (mtC m) 23 rfl).below (bal (Below.refl _ _) _)).below (bal (Below.refl _ _) _)
  have hN : BC w0 (w.heap.size + 1) (mtC n) := by rw [hw0]; exact (BC.new (w := w.alloc (.cells (mtC m).toArray 23)) (mtC n) 23 (by simp)).below (bal (Below.refl _ _) _)
  have hZ : BC w0 (w.heap.size + 1 + 1) (mtC zeroM) := by rw [hw0]; exact BC.new (w := (w.alloc (.cells (mtC m).toArray 23)).alloc (.cells (mtC n).toArray 23)) (mtC zeroM) 23 (by simp)
  have HMm := Lib.hid fun W => rMay_any m W
  have HMn := Lib.hid fun W => rMay_any n W
  have HRR := Lib.hid hRR
  have hvm : ∀ m, mtv m = .agg (mtC m).toArray := fun _ => rfl
  rw [hvm] at HMm HMn
  rw [hvm, hvm, hvm]
  have hz6 : (mtC zeroM).toArray = #[.int .i64 0, .int .i64 0, .int .i64 0, .int .i64 0, .int .i64 0, .int .i64 0] := rfl
  rw [hz6] at hw0
  clear hRR hvm hz6
  go_enter Tryz.func41, Tryz.ntmps41
  go_upto_region 1 with (fail)
  rw [← hw0]
  clear hw0
  go_wp2_with (first
    | (refine wpList_load_rec rfl _ _ rfl w.heap.size rfl _ 6 matT2 hA rfl ?_)
    | fail)
  refine (HMm.out _).mono ?_; rintro e w1 ⟨rfl, hb1⟩
  have B1 := btr hB0 hb1
  replace hA := hA.below hb1
  replace hN := hN.below hb1
  replace hZ := hZ.below hb1
  clear hb1 hB0
  cases hm : mtB m
  · have HR2 : Hid (R = (zeroM, 1)) := Lib.hid (by rw [← HRR.out]; unfold mulB; rw [hm]; rfl)
    have hF := hZ.putAll (mtC zeroM) rfl
    have hFB := below_setCells (show w.heap.size ≤ w.heap.size + 1 + 1 by omega) (mtC zeroM) 0 _ B1
    go_wp2_with (first
      | (refine wpList_store_rec rfl _ _ _ rfl (w.heap.size + 1 + 1) (mtC zeroM) _ rfl rfl 6 matT2 hZ rfl rfl (mtC_oneR _) ?_)
      | fail)
    refine bodyPost_ret (result_rec rfl rfl rfl matT2 hF rfl) rfl ?_
    rw [HR2.out]
    exact ⟨rfl, hFB⟩
  · go_wp2_with (first
      | (refine wpList_load_rec_g2 (by kernel_rfl) _ _ rfl (w.heap.size + 1) rfl _ 6 matT2 hN rfl ?_)
      | fail)
    refine (HMn.out _).mono ?_; rintro e w2 ⟨rfl, hb2⟩
    have B2 := btr B1 hb2
    replace hA := hA.below hb2
    replace hN := hN.below hb2
    replace hZ := hZ.below hb2
    clear hb2 B1
    cases hn : mtB n
    · have HR2 : Hid (R = (zeroM, 1)) := Lib.hid (by rw [← HRR.out]; unfold mulB; rw [hm, hn]; rfl)
      have hF := hZ.putAll (mtC zeroM) rfl
      have hFB := below_setCells (show w.heap.size ≤ w.heap.size + 1 + 1 by omega) (mtC zeroM) 0 _ B2
      go_wp2_with (first
        | (refine wpList_store_rec rfl _ _ _ rfl (w.heap.size + 1 + 1) (mtC zeroM) _ rfl rfl 6 matT2 hZ rfl rfl (mtC_oneR _) ?_)
        | fail)
      refine bodyPost_ret (result_rec rfl rfl rfl matT2 hF rfl) rfl ?_
      rw [HR2.out]
      exact ⟨rfl, hFB⟩
    · have F := mtB_fix hm
      have G := mtB_fix hn
      have HIN := Lib.hid fun W => rIn_any (prodM m n) R W (by rw [← HRR.out]; unfold mulB; rw [hm, hn]; exact (mul_held hm hn).symm)
      obtain ⟨b1, b2, p1, p2, p3⟩ := sum4_bd F.1 G.1 F.2.1 G.2.2.1
      obtain ⟨b3, b4, p4, p5, p6⟩ := sum4_bd F.1 G.2.1 F.2.1 G.2.2.2.1
      obtain ⟨b5, b6, p7, p8, p9⟩ := sum4_bd F.2.2.1 G.1 F.2.2.2.1 G.2.2.1
      obtain ⟨b7, b8, p10, p11, p12⟩ := sum4_bd F.2.2.1 G.2.1 F.2.2.2.1 G.2.2.2.1
      obtain ⟨b9, b10, p13, p14, p15⟩ := sum4_bd F.2.2.2.2.1 G.1 F.2.2.2.2.2 G.2.2.1
      obtain ⟨b11, b12, p16, p17, p18⟩ := sum4_bd F.2.2.2.2.1 G.2.1 F.2.2.2.2.2 G.2.2.2.1
      have HS := Lib.hid (fun W => And.intro (rEven16_any (m.a * n.a + m.b * n.c) W ⟨b1, b2⟩) (And.intro (rEven16_any (m.a * n.b + m.b * n.d) W ⟨b3, b4⟩) (And.intro (rEven16_any (m.c * n.a + m.d * n.c) W ⟨b5, b6⟩) (And.intro (rEven16_any (m.c * n.b + m.d * n.d) W ⟨b7, b8⟩)
        (And.intro (rEven16_any (m.e * n.a + m.f * n.c) W ⟨b9, b10⟩) (rEven16_any (m.e * n.b + m.f * n.d) W ⟨b11, b12⟩))))))
      have e1 : IntKind.i64.wrap (rndM 65536 32768 (m.e * n.a + m.f * n.c) + n.e) = rndM 65536 32768 (m.e * n.a + m.f * n.c) + n.e := add4_in b9 b10 G.2.2.2.2.1
      have e2 : IntKind.i64.wrap (rndM 65536 32768 (m.e * n.b + m.f * n.d) + n.f) = rndM 65536 32768 (m.e * n.b + m.f * n.d) + n.f := add4_in b11 b12 G.2.2.2.2.2
      unfold mtv prodM at HIN
      have SA : BC w2.drew w.heap.size (mtC m) := hA.below (bdrew (Below.refl _ _))
      have SN : BC w2.drew (w.heap.size + 1) (mtC n) := hN.below (bdrew (Below.refl _ _))
      clear F G b1 b2 b3 b4 b5 b6 b7 b8 b9 b10 b11 b12 hm hn
      go_wp2_with fail
      refine wp_region_ord (fun W => BC W w.heap.size (mtC m) ∧ BC W (w.heap.size + 1) (mtC n)) [] 84 (by kernel_rfl) (by kernel_rfl) ⟨SA, SN⟩ ?_
      intro hS
      refine ord_take (v := ?_) 0 rfl rfl (by kernel_rfl) (by kernel_rfl) (fun _ _ _ h => h) (Or.inl ⟨by rfl, ?_⟩) hS ?_
      rotate_left
      · rintro W ⟨hWA, hWN⟩
        go_simp
        (try with_reducible rfl)
      simp only [Act.put, List.setIfInBounds_toArray, List.set_cons_zero, List.set_cons_succ]
      refine ord_take (v := ?_) 1 rfl rfl (by kernel_rfl) (by kernel_rfl) (fun _ _ _ h => h) (Or.inl ⟨by rfl, ?_⟩) hS ?_
      rotate_left
      · rintro W ⟨hWA, hWN⟩
        have a0 := hWA.c 0 _ rfl
        go_simp
        (try with_reducible rfl)
      simp only [Act.put, List.setIfInBounds_toArray, List.set_cons_zero, List.set_cons_succ]
      refine ord_take (v := ?_) 2 rfl rfl (by kernel_rfl) (by kernel_rfl) (fun _ _ _ h => h) (Or.inl ⟨by rfl, ?_⟩) hS ?_
      rotate_left
      · rintro W ⟨hWA, hWN⟩
        go_simp
        (try with_reducible rfl)
      simp only [Act.put, List.setIfInBounds_toArray, List.set_cons_zero, List.set_cons_succ]
      refine ord_take (v := ?_) 3 rfl rfl (by kernel_rfl) (by kernel_rfl) (fun _ _ _ h => h) (Or.inl ⟨by rfl, ?_⟩) hS ?_
      rotate_left
      · rintro W ⟨hWA, hWN⟩
        have a0 := hWN.c 0 _ rfl
        go_simp
        (try with_reducible rfl)
      simp only [Act.put, List.setIfInBounds_toArray, List.set_cons_zero, List.set_cons_succ]
      refine ord_take (v := ?_) 4 rfl rfl (by kernel_rfl) (by kernel_rfl) (fun _ _ _ h => h) (Or.inl ⟨by rfl, ?_⟩) hS ?_
      rotate_left
      · rintro W ⟨hWA, hWN⟩
        go_simp
        (try with_reducible rfl)
      simp only [Act.put, List.setIfInBounds_toArray, List.set_cons_zero, List.set_cons_succ]
      refine ord_take (v := ?_) 5 rfl rfl (by kernel_rfl) (by kernel_rfl) (fun _ _ _ h => h) (Or.inl ⟨by rfl, ?_⟩) hS ?_
      rotate_left
      · rintro W ⟨hWA, hWN⟩
        go_simp
        (try with_reducible rfl)
      simp only [Act.put, List.setIfInBounds_toArray, List.set_cons_zero, List.set_cons_succ]
      refine ord_take (v := ?_) 6 rfl rfl (by kernel_rfl) (by kernel_rfl) (fun _ _ _ h => h) (Or.inl ⟨by rfl, ?_⟩) hS ?_
      rotate_left
      · rintro W ⟨hWA, hWN⟩
        have a0 := hWA.c 1 _ rfl
        go_simp
        (try with_reducible rfl)
      simp only [Act.put, List.setIfInBounds_toArray, List.set_cons_zero, List.set_cons_succ]
      refine ord_take (v := ?_) 7 rfl rfl (by kernel_rfl) (by kernel_rfl) (fun _ _ _ h => h) (Or.inl ⟨by rfl, ?_⟩) hS ?_
      rotate_left
      · rintro W ⟨hWA, hWN⟩
        go_simp
        (try with_reducible rfl)
      simp only [Act.put, List.setIfInBounds_toArray, List.set_cons_zero, List.set_cons_succ]
      refine ord_take (v := ?_) 8 rfl rfl (by kernel_rfl) (by kernel_rfl) (fun _ _ _ h => h) (Or.inl ⟨by rfl, ?_⟩) hS ?_
      rotate_left
      · rintro W ⟨hWA, hWN⟩
        have a0 := hWN.c 2 _ rfl
        go_simp
        (try with_reducible rfl)
      simp only [Act.put, List.setIfInBounds_toArray, List.set_cons_zero, List.set_cons_succ]
      refine ord_take (v := ?_) 9 rfl rfl (by kernel_rfl) (by kernel_rfl) (fun _ _ _ h => h) (Or.inl ⟨by rfl, ?_⟩) hS ?_
      rotate_left
      · rintro W ⟨hWA, hWN⟩
        go_simp
        (try with_reducible rfl)
      simp only [Act.put, List.setIfInBounds_toArray, List.set_cons_zero, List.set_cons_succ]
      refine ord_take (v := ?_) 10 rfl rfl (by kernel_rfl) (by kernel_rfl) (fun _ _ _ h => h) (Or.inl ⟨by rfl, ?_⟩) hS ?_
      rotate_left
      · rintro W ⟨hWA, hWN⟩
        go_simp
        (try with_reducible rfl)
      simp only [Act.put, List.setIfInBounds_toArray, List.set_cons_zero, List.set_cons_succ]
      refine ord_take (v := ?_) 12 rfl rfl (by kernel_rfl) (by kernel_rfl) (fun _ _ _ h => h) (Or.inl ⟨by rfl, ?_⟩) hS ?_
      rotate_left
      · rintro W ⟨hWA, hWN⟩
        go_simp
        (try with_reducible rfl)
      simp only [Act.put, List.setIfInBounds_toArray, List.set_cons_zero, List.set_cons_succ]
      refine ord_take (v := ?_) 13 rfl rfl (by kernel_rfl) (by kernel_rfl) (fun _ _ _ h => h) (Or.inl ⟨by rfl, ?_⟩) hS ?_
      rotate_left
      · rintro W ⟨hWA, hWN⟩
        have a0 := hWA.c 0 _ rfl
        go_simp
        (try with_reducible rfl)
      simp only [Act.put, List.setIfInBounds_toArray, List.set_cons_zero, List.set_cons_succ]
      refine ord_take (v := ?_) 14 rfl rfl (by kernel_rfl) (by kernel_rfl) (fun _ _ _ h => h) (Or.inl ⟨by rfl, ?_⟩) hS ?_
      rotate_left
      · rintro W ⟨hWA, hWN⟩
        go_simp
        (try with_reducible rfl)
      simp only [Act.put, List.setIfInBounds_toArray, List.set_cons_zero, List.set_cons_succ]
      refine ord_take (v := ?_) 15 rfl rfl (by kernel_rfl) (by kernel_rfl) (fun _ _ _ h => h) (Or.inl ⟨by rfl, ?_⟩) hS ?_
      rotate_left
      · rintro W ⟨hWA, hWN⟩
        have a0 := hWN.c 1 _ rfl
        go_simp
        (try with_reducible rfl)
      simp only [Act.put, List.setIfInBounds_toArray, List.set_cons_zero, List.set_cons_succ]
      refine ord_take (v := ?_) 16 rfl rfl (by kernel_rfl) (by kernel_rfl) (fun _ _ _ h => h) (Or.inl ⟨by rfl, ?_⟩) hS ?_
      rotate_left
      · rintro W ⟨hWA, hWN⟩
        go_simp
        (try with_reducible rfl)
      simp only [Act.put, List.setIfInBounds_toArray, List.set_cons_zero, List.set_cons_succ]
      refine ord_take (v := ?_) 17 rfl rfl (by kernel_rfl) (by kernel_rfl) (fun _ _ _ h => h) (Or.inl ⟨by rfl, ?_⟩) hS ?_
      rotate_left
      · rintro W ⟨hWA, hWN⟩
        go_simp
        (try with_reducible rfl)
      simp only [Act.put, List.setIfInBounds_toArray, List.set_cons_zero, List.set_cons_succ]
      refine ord_take (v := ?_) 18 rfl rfl (by kernel_rfl) (by kernel_rfl) (fun _ _ _ h => h) (Or.inl ⟨by rfl, ?_⟩) hS ?_
      rotate_left
      · rintro W ⟨hWA, hWN⟩
        have a0 := hWA.c 1 _ rfl
        go_simp
        (try with_reducible rfl)
      simp only [Act.put, List.setIfInBounds_toArray, List.set_cons_zero, List.set_cons_succ]
      refine ord_take (v := ?_) 19 rfl rfl (by kernel_rfl) (by kernel_rfl) (fun _ _ _ h => h) (Or.inl ⟨by rfl, ?_⟩) hS ?_
      rotate_left
      · rintro W ⟨hWA, hWN⟩
        go_simp
        (try with_reducible rfl)
      simp only [Act.put, List.setIfInBounds_toArray, List.set_cons_zero, List.set_cons_succ]
      refine ord_take (v := ?_) 20 rfl rfl (by kernel_rfl) (by kernel_rfl) (fun _ _ _ h => h) (Or.inl ⟨by rfl, ?_⟩) hS ?_
      rotate_left
      · rintro W ⟨hWA, hWN⟩
        have a0 := hWN.c 3 _ rfl
        go_simp
        (try with_reducible rfl)
      simp only [Act.put, List.setIfInBounds_toArray, List.set_cons_zero, List.set_cons_succ]
      refine ord_take (v := ?_) 21 rfl rfl (by kernel_rfl) (by kernel_rfl) (fun _ _ _ h => h) (Or.inl ⟨by rfl, ?_⟩) hS ?_
      rotate_left
      · rintro W ⟨hWA, hWN⟩
        go_simp
        (try with_reducible rfl)
      simp only [Act.put, List.setIfInBounds_toArray, List.set_cons_zero, List.set_cons_succ]
      refine ord_take (v := ?_) 22 rfl rfl (by kernel_rfl) (by kernel_rfl) (fun _ _ _ h => h) (Or.inl ⟨by rfl, ?_⟩) hS ?_
      rotate_left
      · rintro W ⟨hWA, hWN⟩
        go_simp
        (try with_reducible rfl)
      simp only [Act.put, List.setIfInBounds_toArray, List.set_cons_zero, List.set_cons_succ]
      refine ord_take (v := ?_) 24 rfl rfl (by kernel_rfl) (by kernel_rfl) (fun _ _ _ h => h) (Or.inl ⟨by rfl, ?_⟩) hS ?_
      rotate_left
      · rintro W ⟨hWA, hWN⟩
        go_simp
        (try with_reducible rfl)
      simp only [Act.put, List.setIfInBounds_toArray, List.set_cons_zero, List.set_cons_succ]
      refine ord_take (v := ?_) 25 rfl rfl (by kernel_rfl) (by kernel_rfl) (fun _ _ _ h => h) (Or.inl ⟨by rfl, ?_⟩) hS ?_
      rotate_left
      · rintro W ⟨hWA, hWN⟩
        have a0 := hWA.c 2 _ rfl
        go_simp
        (try with_reducible rfl)
      simp only [Act.put, List.setIfInBounds_toArray, List.set_cons_zero, List.set_cons_succ]
      refine ord_take (v := ?_) 26 rfl rfl (by kernel_rfl) (by kernel_rfl) (fun _ _ _ h => h) (Or.inl ⟨by rfl, ?_⟩) hS ?_
      rotate_left
      · rintro W ⟨hWA, hWN⟩
        go_simp
        (try with_reducible rfl)
      simp only [Act.put, List.setIfInBounds_toArray, List.set_cons_zero, List.set_cons_succ]
      refine ord_take (v := ?_) 27 rfl rfl (by kernel_rfl) (by kernel_rfl) (fun _ _ _ h => h) (Or.inl ⟨by rfl, ?_⟩) hS ?_
      rotate_left
      · rintro W ⟨hWA, hWN⟩
        have a0 := hWN.c 0 _ rfl
        go_simp
        (try with_reducible rfl)
      simp only [Act.put, List.setIfInBounds_toArray, List.set_cons_zero, List.set_cons_succ]
      refine ord_take (v := ?_) 28 rfl rfl (by kernel_rfl) (by kernel_rfl) (fun _ _ _ h => h) (Or.inl ⟨by rfl, ?_⟩) hS ?_
      rotate_left
      · rintro W ⟨hWA, hWN⟩
        go_simp
        (try with_reducible rfl)
      simp only [Act.put, List.setIfInBounds_toArray, List.set_cons_zero, List.set_cons_succ]
      refine ord_take (v := ?_) 29 rfl rfl (by kernel_rfl) (by kernel_rfl) (fun _ _ _ h => h) (Or.inl ⟨by rfl, ?_⟩) hS ?_
      rotate_left
      · rintro W ⟨hWA, hWN⟩
        go_simp
        (try with_reducible rfl)
      simp only [Act.put, List.setIfInBounds_toArray, List.set_cons_zero, List.set_cons_succ]
      refine ord_take (v := ?_) 30 rfl rfl (by kernel_rfl) (by kernel_rfl) (fun _ _ _ h => h) (Or.inl ⟨by rfl, ?_⟩) hS ?_
      rotate_left
      · rintro W ⟨hWA, hWN⟩
        have a0 := hWA.c 3 _ rfl
        go_simp
        (try with_reducible rfl)
      simp only [Act.put, List.setIfInBounds_toArray, List.set_cons_zero, List.set_cons_succ]
      refine ord_take (v := ?_) 31 rfl rfl (by kernel_rfl) (by kernel_rfl) (fun _ _ _ h => h) (Or.inl ⟨by rfl, ?_⟩) hS ?_
      rotate_left
      · rintro W ⟨hWA, hWN⟩
        go_simp
        (try with_reducible rfl)
      simp only [Act.put, List.setIfInBounds_toArray, List.set_cons_zero, List.set_cons_succ]
      refine ord_take (v := ?_) 32 rfl rfl (by kernel_rfl) (by kernel_rfl) (fun _ _ _ h => h) (Or.inl ⟨by rfl, ?_⟩) hS ?_
      rotate_left
      · rintro W ⟨hWA, hWN⟩
        have a0 := hWN.c 2 _ rfl
        go_simp
        (try with_reducible rfl)
      simp only [Act.put, List.setIfInBounds_toArray, List.set_cons_zero, List.set_cons_succ]
      refine ord_take (v := ?_) 33 rfl rfl (by kernel_rfl) (by kernel_rfl) (fun _ _ _ h => h) (Or.inl ⟨by rfl, ?_⟩) hS ?_
      rotate_left
      · rintro W ⟨hWA, hWN⟩
        go_simp
        (try with_reducible rfl)
      simp only [Act.put, List.setIfInBounds_toArray, List.set_cons_zero, List.set_cons_succ]
      refine ord_take (v := ?_) 34 rfl rfl (by kernel_rfl) (by kernel_rfl) (fun _ _ _ h => h) (Or.inl ⟨by rfl, ?_⟩) hS ?_
      rotate_left
      · rintro W ⟨hWA, hWN⟩
        go_simp
        (try with_reducible rfl)
      simp only [Act.put, List.setIfInBounds_toArray, List.set_cons_zero, List.set_cons_succ]
      refine ord_take (v := ?_) 36 rfl rfl (by kernel_rfl) (by kernel_rfl) (fun _ _ _ h => h) (Or.inl ⟨by rfl, ?_⟩) hS ?_
      rotate_left
      · rintro W ⟨hWA, hWN⟩
        go_simp
        (try with_reducible rfl)
      simp only [Act.put, List.setIfInBounds_toArray, List.set_cons_zero, List.set_cons_succ]
      refine ord_take (v := ?_) 37 rfl rfl (by kernel_rfl) (by kernel_rfl) (fun _ _ _ h => h) (Or.inl ⟨by rfl, ?_⟩) hS ?_
      rotate_left
      · rintro W ⟨hWA, hWN⟩
        have a0 := hWA.c 2 _ rfl
        go_simp
        (try with_reducible rfl)
      simp only [Act.put, List.setIfInBounds_toArray, List.set_cons_zero, List.set_cons_succ]
      refine ord_take (v := ?_) 38 rfl rfl (by kernel_rfl) (by kernel_rfl) (fun _ _ _ h => h) (Or.inl ⟨by rfl, ?_⟩) hS ?_
      rotate_left
      · rintro W ⟨hWA, hWN⟩
        go_simp
        (try with_reducible rfl)
      simp only [Act.put, List.setIfInBounds_toArray, List.set_cons_zero, List.set_cons_succ]
      refine ord_take (v := ?_) 39 rfl rfl (by kernel_rfl) (by kernel_rfl) (fun _ _ _ h => h) (Or.inl ⟨by rfl, ?_⟩) hS ?_
      rotate_left
      · rintro W ⟨hWA, hWN⟩
        have a0 := hWN.c 1 _ rfl
        go_simp
        (try with_reducible rfl)
      simp only [Act.put, List.setIfInBounds_toArray, List.set_cons_zero, List.set_cons_succ]
      refine ord_take (v := ?_) 40 rfl rfl (by kernel_rfl) (by kernel_rfl) (fun _ _ _ h => h) (Or.inl ⟨by rfl, ?_⟩) hS ?_
      rotate_left
      · rintro W ⟨hWA, hWN⟩
        go_simp
        (try with_reducible rfl)
      simp only [Act.put, List.setIfInBounds_toArray, List.set_cons_zero, List.set_cons_succ]
      refine ord_take (v := ?_) 41 rfl rfl (by kernel_rfl) (by kernel_rfl) (fun _ _ _ h => h) (Or.inl ⟨by rfl, ?_⟩) hS ?_
      rotate_left
      · rintro W ⟨hWA, hWN⟩
        go_simp
        (try with_reducible rfl)
      simp only [Act.put, List.setIfInBounds_toArray, List.set_cons_zero, List.set_cons_succ]
      refine ord_take (v := ?_) 42 rfl rfl (by kernel_rfl) (by kernel_rfl) (fun _ _ _ h => h) (Or.inl ⟨by rfl, ?_⟩) hS ?_
      rotate_left
      · rintro W ⟨hWA, hWN⟩
        have a0 := hWA.c 3 _ rfl
        go_simp
        (try with_reducible rfl)
      simp only [Act.put, List.setIfInBounds_toArray, List.set_cons_zero, List.set_cons_succ]
      refine ord_take (v := ?_) 43 rfl rfl (by kernel_rfl) (by kernel_rfl) (fun _ _ _ h => h) (Or.inl ⟨by rfl, ?_⟩) hS ?_
      rotate_left
      · rintro W ⟨hWA, hWN⟩
        go_simp
        (try with_reducible rfl)
      simp only [Act.put, List.setIfInBounds_toArray, List.set_cons_zero, List.set_cons_succ]
      refine ord_take (v := ?_) 44 rfl rfl (by kernel_rfl) (by kernel_rfl) (fun _ _ _ h => h) (Or.inl ⟨by rfl, ?_⟩) hS ?_
      rotate_left
      · rintro W ⟨hWA, hWN⟩
        have a0 := hWN.c 3 _ rfl
        go_simp
        (try with_reducible rfl)
      simp only [Act.put, List.setIfInBounds_toArray, List.set_cons_zero, List.set_cons_succ]
      refine ord_take (v := ?_) 45 rfl rfl (by kernel_rfl) (by kernel_rfl) (fun _ _ _ h => h) (Or.inl ⟨by rfl, ?_⟩) hS ?_
      rotate_left
      · rintro W ⟨hWA, hWN⟩
        go_simp
        (try with_reducible rfl)
      simp only [Act.put, List.setIfInBounds_toArray, List.set_cons_zero, List.set_cons_succ]
      refine ord_take (v := ?_) 46 rfl rfl (by kernel_rfl) (by kernel_rfl) (fun _ _ _ h => h) (Or.inl ⟨by rfl, ?_⟩) hS ?_
      rotate_left
      · rintro W ⟨hWA, hWN⟩
        go_simp
        (try with_reducible rfl)
      simp only [Act.put, List.setIfInBounds_toArray, List.set_cons_zero, List.set_cons_succ]
      refine ord_take (v := ?_) 48 rfl rfl (by kernel_rfl) (by kernel_rfl) (fun _ _ _ h => h) (Or.inl ⟨by rfl, ?_⟩) hS ?_
      rotate_left
      · rintro W ⟨hWA, hWN⟩
        go_simp
        (try with_reducible rfl)
      simp only [Act.put, List.setIfInBounds_toArray, List.set_cons_zero, List.set_cons_succ]
      refine ord_take (v := ?_) 49 rfl rfl (by kernel_rfl) (by kernel_rfl) (fun _ _ _ h => h) (Or.inl ⟨by rfl, ?_⟩) hS ?_
      rotate_left
      · rintro W ⟨hWA, hWN⟩
        have a0 := hWA.c 4 _ rfl
        go_simp
        (try with_reducible rfl)
      simp only [Act.put, List.setIfInBounds_toArray, List.set_cons_zero, List.set_cons_succ]
      refine ord_take (v := ?_) 50 rfl rfl (by kernel_rfl) (by kernel_rfl) (fun _ _ _ h => h) (Or.inl ⟨by rfl, ?_⟩) hS ?_
      rotate_left
      · rintro W ⟨hWA, hWN⟩
        go_simp
        (try with_reducible rfl)
      simp only [Act.put, List.setIfInBounds_toArray, List.set_cons_zero, List.set_cons_succ]
      refine ord_take (v := ?_) 51 rfl rfl (by kernel_rfl) (by kernel_rfl) (fun _ _ _ h => h) (Or.inl ⟨by rfl, ?_⟩) hS ?_
      rotate_left
      · rintro W ⟨hWA, hWN⟩
        have a0 := hWN.c 0 _ rfl
        go_simp
        (try with_reducible rfl)
      simp only [Act.put, List.setIfInBounds_toArray, List.set_cons_zero, List.set_cons_succ]
      refine ord_take (v := ?_) 52 rfl rfl (by kernel_rfl) (by kernel_rfl) (fun _ _ _ h => h) (Or.inl ⟨by rfl, ?_⟩) hS ?_
      rotate_left
      · rintro W ⟨hWA, hWN⟩
        go_simp
        (try with_reducible rfl)
      simp only [Act.put, List.setIfInBounds_toArray, List.set_cons_zero, List.set_cons_succ]
      refine ord_take (v := ?_) 53 rfl rfl (by kernel_rfl) (by kernel_rfl) (fun _ _ _ h => h) (Or.inl ⟨by rfl, ?_⟩) hS ?_
      rotate_left
      · rintro W ⟨hWA, hWN⟩
        go_simp
        (try with_reducible rfl)
      simp only [Act.put, List.setIfInBounds_toArray, List.set_cons_zero, List.set_cons_succ]
      refine ord_take (v := ?_) 54 rfl rfl (by kernel_rfl) (by kernel_rfl) (fun _ _ _ h => h) (Or.inl ⟨by rfl, ?_⟩) hS ?_
      rotate_left
      · rintro W ⟨hWA, hWN⟩
        have a0 := hWA.c 5 _ rfl
        go_simp
        (try with_reducible rfl)
      simp only [Act.put, List.setIfInBounds_toArray, List.set_cons_zero, List.set_cons_succ]
      refine ord_take (v := ?_) 55 rfl rfl (by kernel_rfl) (by kernel_rfl) (fun _ _ _ h => h) (Or.inl ⟨by rfl, ?_⟩) hS ?_
      rotate_left
      · rintro W ⟨hWA, hWN⟩
        go_simp
        (try with_reducible rfl)
      simp only [Act.put, List.setIfInBounds_toArray, List.set_cons_zero, List.set_cons_succ]
      refine ord_take (v := ?_) 56 rfl rfl (by kernel_rfl) (by kernel_rfl) (fun _ _ _ h => h) (Or.inl ⟨by rfl, ?_⟩) hS ?_
      rotate_left
      · rintro W ⟨hWA, hWN⟩
        have a0 := hWN.c 2 _ rfl
        go_simp
        (try with_reducible rfl)
      simp only [Act.put, List.setIfInBounds_toArray, List.set_cons_zero, List.set_cons_succ]
      refine ord_take (v := ?_) 57 rfl rfl (by kernel_rfl) (by kernel_rfl) (fun _ _ _ h => h) (Or.inl ⟨by rfl, ?_⟩) hS ?_
      rotate_left
      · rintro W ⟨hWA, hWN⟩
        go_simp
        (try with_reducible rfl)
      simp only [Act.put, List.setIfInBounds_toArray, List.set_cons_zero, List.set_cons_succ]
      refine ord_take (v := ?_) 58 rfl rfl (by kernel_rfl) (by kernel_rfl) (fun _ _ _ h => h) (Or.inl ⟨by rfl, ?_⟩) hS ?_
      rotate_left
      · rintro W ⟨hWA, hWN⟩
        go_simp
        (try with_reducible rfl)
      simp only [Act.put, List.setIfInBounds_toArray, List.set_cons_zero, List.set_cons_succ]
      refine ord_take (v := ?_) 60 rfl rfl (by kernel_rfl) (by kernel_rfl) (fun _ _ _ h => h) (Or.inl ⟨by rfl, ?_⟩) hS ?_
      rotate_left
      · rintro W ⟨hWA, hWN⟩
        go_simp
        (try with_reducible rfl)
      simp only [Act.put, List.setIfInBounds_toArray, List.set_cons_zero, List.set_cons_succ]
      refine ord_take (v := ?_) 61 rfl rfl (by kernel_rfl) (by kernel_rfl) (fun _ _ _ h => h) (Or.inl ⟨by rfl, ?_⟩) hS ?_
      rotate_left
      · rintro W ⟨hWA, hWN⟩
        have a0 := hWN.c 4 _ rfl
        go_simp
        (try with_reducible rfl)
      simp only [Act.put, List.setIfInBounds_toArray, List.set_cons_zero, List.set_cons_succ]
      refine ord_take (v := ?_) 63 rfl rfl (by kernel_rfl) (by kernel_rfl) (fun _ _ _ h => h) (Or.inl ⟨by rfl, ?_⟩) hS ?_
      rotate_left
      · rintro W ⟨hWA, hWN⟩
        go_simp
        (try with_reducible rfl)
      simp only [Act.put, List.setIfInBounds_toArray, List.set_cons_zero, List.set_cons_succ]
      refine ord_take (v := ?_) 64 rfl rfl (by kernel_rfl) (by kernel_rfl) (fun _ _ _ h => h) (Or.inl ⟨by rfl, ?_⟩) hS ?_
      rotate_left
      · rintro W ⟨hWA, hWN⟩
        have a0 := hWA.c 4 _ rfl
        go_simp
        (try with_reducible rfl)
      simp only [Act.put, List.setIfInBounds_toArray, List.set_cons_zero, List.set_cons_succ]
      refine ord_take (v := ?_) 65 rfl rfl (by kernel_rfl) (by kernel_rfl) (fun _ _ _ h => h) (Or.inl ⟨by rfl, ?_⟩) hS ?_
      rotate_left
      · rintro W ⟨hWA, hWN⟩
        go_simp
        (try with_reducible rfl)
      simp only [Act.put, List.setIfInBounds_toArray, List.set_cons_zero, List.set_cons_succ]
      refine ord_take (v := ?_) 66 rfl rfl (by kernel_rfl) (by kernel_rfl) (fun _ _ _ h => h) (Or.inl ⟨by rfl, ?_⟩) hS ?_
      rotate_left
      · rintro W ⟨hWA, hWN⟩
        have a0 := hWN.c 1 _ rfl
        go_simp
        (try with_reducible rfl)
      simp only [Act.put, List.setIfInBounds_toArray, List.set_cons_zero, List.set_cons_succ]
      refine ord_take (v := ?_) 67 rfl rfl (by kernel_rfl) (by kernel_rfl) (fun _ _ _ h => h) (Or.inl ⟨by rfl, ?_⟩) hS ?_
      rotate_left
      · rintro W ⟨hWA, hWN⟩
        go_simp
        (try with_reducible rfl)
      simp only [Act.put, List.setIfInBounds_toArray, List.set_cons_zero, List.set_cons_succ]
      refine ord_take (v := ?_) 68 rfl rfl (by kernel_rfl) (by kernel_rfl) (fun _ _ _ h => h) (Or.inl ⟨by rfl, ?_⟩) hS ?_
      rotate_left
      · rintro W ⟨hWA, hWN⟩
        go_simp
        (try with_reducible rfl)
      simp only [Act.put, List.setIfInBounds_toArray, List.set_cons_zero, List.set_cons_succ]
      refine ord_take (v := ?_) 69 rfl rfl (by kernel_rfl) (by kernel_rfl) (fun _ _ _ h => h) (Or.inl ⟨by rfl, ?_⟩) hS ?_
      rotate_left
      · rintro W ⟨hWA, hWN⟩
        have a0 := hWA.c 5 _ rfl
        go_simp
        (try with_reducible rfl)
      simp only [Act.put, List.setIfInBounds_toArray, List.set_cons_zero, List.set_cons_succ]
      refine ord_take (v := ?_) 70 rfl rfl (by kernel_rfl) (by kernel_rfl) (fun _ _ _ h => h) (Or.inl ⟨by rfl, ?_⟩) hS ?_
      rotate_left
      · rintro W ⟨hWA, hWN⟩
        go_simp
        (try with_reducible rfl)
      simp only [Act.put, List.setIfInBounds_toArray, List.set_cons_zero, List.set_cons_succ]
      refine ord_take (v := ?_) 71 rfl rfl (by kernel_rfl) (by kernel_rfl) (fun _ _ _ h => h) (Or.inl ⟨by rfl, ?_⟩) hS ?_
      rotate_left
      · rintro W ⟨hWA, hWN⟩
        have a0 := hWN.c 3 _ rfl
        go_simp
        (try with_reducible rfl)
      simp only [Act.put, List.setIfInBounds_toArray, List.set_cons_zero, List.set_cons_succ]
      refine ord_take (v := ?_) 72 rfl rfl (by kernel_rfl) (by kernel_rfl) (fun _ _ _ h => h) (Or.inl ⟨by rfl, ?_⟩) hS ?_
      rotate_left
      · rintro W ⟨hWA, hWN⟩
        go_simp
        (try with_reducible rfl)
      simp only [Act.put, List.setIfInBounds_toArray, List.set_cons_zero, List.set_cons_succ]
      refine ord_take (v := ?_) 73 rfl rfl (by kernel_rfl) (by kernel_rfl) (fun _ _ _ h => h) (Or.inl ⟨by rfl, ?_⟩) hS ?_
      rotate_left
      · rintro W ⟨hWA, hWN⟩
        go_simp
        (try with_reducible rfl)
      simp only [Act.put, List.setIfInBounds_toArray, List.set_cons_zero, List.set_cons_succ]
      refine ord_take (v := ?_) 75 rfl rfl (by kernel_rfl) (by kernel_rfl) (fun _ _ _ h => h) (Or.inl ⟨by rfl, ?_⟩) hS ?_
      rotate_left
      · rintro W ⟨hWA, hWN⟩
        go_simp
        (try with_reducible rfl)
      simp only [Act.put, List.setIfInBounds_toArray, List.set_cons_zero, List.set_cons_succ]
      refine ord_take (v := ?_) 76 rfl rfl (by kernel_rfl) (by kernel_rfl) (fun _ _ _ h => h) (Or.inl ⟨by rfl, ?_⟩) hS ?_
      rotate_left
      · rintro W ⟨hWA, hWN⟩
        have a0 := hWN.c 5 _ rfl
        go_simp
        (try with_reducible rfl)
      simp only [Act.put, List.setIfInBounds_toArray, List.set_cons_zero, List.set_cons_succ]
      refine ord_one 11 rfl (by kernel_rfl) rfl ?_
      intro K hK
      go_simp
      refine ((HS.out _).1).mono ?_; rintro e w' ⟨rfl, rfl⟩
      refine hK.out _ _ hS ?_
      clear hK K
      try simp only
      refine ord_one 23 rfl (by kernel_rfl) rfl ?_
      intro K hK
      go_simp
      refine ((HS.out _).2.1).mono ?_; rintro e w' ⟨rfl, rfl⟩
      refine hK.out _ _ hS ?_
      clear hK K
      try simp only
      refine ord_one 35 rfl (by kernel_rfl) rfl ?_
      intro K hK
      go_simp
      refine ((HS.out _).2.2.1).mono ?_; rintro e w' ⟨rfl, rfl⟩
      refine hK.out _ _ hS ?_
      clear hK K
      try simp only
      refine ord_one 47 rfl (by kernel_rfl) rfl ?_
      intro K hK
      go_simp
      refine ((HS.out _).2.2.2.1).mono ?_; rintro e w' ⟨rfl, rfl⟩
      refine hK.out _ _ hS ?_
      clear hK K
      try simp only
      refine ord_one 59 rfl (by kernel_rfl) rfl ?_
      intro K hK
      go_simp
      refine ((HS.out _).2.2.2.2.1).mono ?_; rintro e w' ⟨rfl, rfl⟩
      refine hK.out _ _ hS ?_
      clear hK K
      try simp only
      refine ord_take (v := ?_) 62 rfl rfl (by kernel_rfl) (by kernel_rfl) (fun _ _ _ h => h) (Or.inl ⟨by rfl, ?_⟩) hS ?_
      rotate_left
      · rintro W ⟨hWA, hWN⟩
        go_simp
        (try with_reducible rfl)
      simp only [Act.put, List.setIfInBounds_toArray, List.set_cons_zero, List.set_cons_succ]
      refine ord_one 74 rfl (by kernel_rfl) rfl ?_
      intro K hK
      go_simp
      refine ((HS.out _).2.2.2.2.2).mono ?_; rintro e w' ⟨rfl, rfl⟩
      refine hK.out _ _ hS ?_
      clear hK K
      try simp only
      refine ord_take (v := ?_) 77 rfl rfl (by kernel_rfl) (by kernel_rfl) (fun _ _ _ h => h) (Or.inl ⟨by rfl, ?_⟩) hS ?_
      rotate_left
      · rintro W ⟨hWA, hWN⟩
        go_simp
        (try with_reducible rfl)
      simp only [Act.put, List.setIfInBounds_toArray, List.set_cons_zero, List.set_cons_succ]
      refine ord_take (v := ?_) 78 rfl rfl (by kernel_rfl) (by kernel_rfl) (fun _ _ _ h => h) (Or.inl ⟨by rfl, ?_⟩) hS ?_
      rotate_left
      · rintro W ⟨hWA, hWN⟩
        go_simp
        (try with_reducible rfl)
      simp only [Act.put, List.setIfInBounds_toArray, List.set_cons_zero, List.set_cons_succ]
      have hb3 := bdrew (Below.refl w2.heap.size w2)
      refine ord_one 79 rfl (by kernel_rfl) rfl ?_
      intro K hK
      go_simp
      refine (HIN.out _).mono ?_; rintro e w5 ⟨rfl, hb5⟩
      have SA5 := SA.below hb5
      have SN5 := SN.below hb5
      have B5 := btr (btr B2 hb3) hb5
      have Z5 := (hZ.below hb3).below hb5
      refine hK.out _ _ ⟨SA5, SN5⟩ ?_
      clear hK K hS SA SN hb3 hb5 B2 hA hN hZ HS HIN
      try simp only
      have hS : BC w5 w.heap.size (mtC m) ∧ BC w5 (w.heap.size + 1) (mtC n) := ⟨SA5, SN5⟩
      refine ord_take (v := ?_) 80 rfl rfl (by kernel_rfl) (by kernel_rfl) (fun _ _ _ h => h) (Or.inl ⟨by rfl, ?_⟩) hS ?_
      rotate_left
      · rintro W ⟨hWA, hWN⟩
        go_simp
        (try with_reducible rfl)
      simp only [Act.put, List.setIfInBounds_toArray, List.set_cons_zero, List.set_cons_succ]
      refine ord_take (v := ?_) 81 rfl rfl (by kernel_rfl) (by kernel_rfl) (fun _ _ _ h => h) (Or.inl ⟨by rfl, ?_⟩) hS ?_
      rotate_left
      · rintro W ⟨hWA, hWN⟩
        go_simp
        (try with_reducible rfl)
      simp only [Act.put, List.setIfInBounds_toArray, List.set_cons_zero, List.set_cons_succ]
      have hF := Z5.putAll (mtC R.1) rfl
      have hFB := below_setCells (show w.heap.size ≤ w.heap.size + 1 + 1 by omega) (mtC R.1) 0 _ B5
      have hth : w5.there (w.heap.size + 1 + 1) 0 (mtC R.1).toArray.size := Z5.there
      have hin : (Tryz.prog.info? 23).map (·.size) = some (mtC R.1).toArray.size := matT2.choose_spec.2.2
      refine ord_one 82 rfl (by kernel_rfl) rfl ?_
      intro K hK
      rw [if_pos (by rfl)]
      refine wp_store_mid _ _ _ rfl (w.heap.size + 1 + 1) 0 (mtC R.1).toArray rfl rfl hth hin (all_oneCell_toArray (mtC_oneR _)) ?_
      refine hK.out _ _ ⟨SA5.apart (by omega) 0 (mtC R.1), SN5.apart (by omega) 0 (mtC R.1)⟩ ?_
      clear hK K hS
      try simp only
      have hS : BC (w5.setCells (w.heap.size + 1 + 1) 0 (mtC R.1)) w.heap.size (mtC m) ∧ BC (w5.setCells (w.heap.size + 1 + 1) 0 (mtC R.1)) (w.heap.size + 1) (mtC n) := ⟨SA5.apart (by omega) 0 (mtC R.1), SN5.apart (by omega) 0 (mtC R.1)⟩
      refine ord_take (v := ?_) 83 rfl rfl (by kernel_rfl) (by kernel_rfl) (fun _ _ _ h => h) (Or.inl ⟨by rfl, ?_⟩) hS ?_
      rotate_left
      · rintro W ⟨hWA, hWN⟩
        go_simp
        (try with_reducible rfl)
      simp only [Act.put, List.setIfInBounds_toArray, List.set_cons_zero, List.set_cons_succ]
      clear hS
      refine ⟨by kernel_rfl, ?_⟩
      refine NoPanic.normal ?_
      try simp only
      go_wp2_with fail
      refine bodyPost_ret (result_rec rfl rfl rfl matT2 hF rfl) rfl ?_
      exact ⟨rfl, hFB⟩
end Go.Proofs.YtdfkbbcoolgfiaaGreat

namespace Go.Proofs.YtdfkbbcoolgfiaaGreat
open Go.RowKit Go.BigFrame

set_option maxRecDepth 100000 in
set_option maxHeartbeats 2000000 in
theorem matMul_no (m n : Mt) (w : World) (hmn : (mtB m && mtB n) = false) : Calls Tryz.prog 38 #[mtv m, mtv n] w fun e w' => e = .returned (.tuple #[mtv zeroM, .int .i64 1]) ∧ Below w.heap.size w w' := by
  obtain ⟨w0, hw0⟩ : ∃ w0 : World, w0 = ((w.alloc (.cells (mtC m).toArray 23)).alloc (.cells (mtC n).toArray 23)).alloc (.cells (mtC zeroM).toArray 23) := ⟨_, rfl⟩
  have hB0 : Below w.heap.size w w0 := by rw [hw0]; exact bal (bal (bal (Below.refl _ _) _) _) _
  have hA : BC w0 w.heap.size (mtC m) := by rw [hw0]; exact ((BC.new (mtC m) 23 rfl).below (bal (Below.refl _ _) _)).below (bal (Below.refl _ _) _)
  have hN : BC w0 (w.heap.size + 1) (mtC n) := by rw [hw0]; exact (BC.new (w := w.alloc (.cells (mtC m).toArray 23)) (mtC n) 23 (by simp)).below (bal (Below.refl _ _) _)
  have hZ : BC w0 (w.heap.size + 1 + 1) (mtC zeroM) := by rw [hw0]; exact BC.new (w := (w.alloc (.cells (mtC m).toArray 23)).alloc (.cells (mtC n).toArray 23)) (mtC zeroM) 23 (by simp)
  have HMm := Lib.hid fun W => matMay_any m W
  have HMn := Lib.hid fun W => matMay_any n W
  have hvm : ∀ m, mtv m = .agg (mtC m).toArray := fun _ => rfl
  rw [hvm] at HMm HMn
  rw [hvm, hvm, hvm]
  have hz6 : (mtC zeroM).toArray = #[.int .i64 0, .int .i64 0, .int .i64 0, .int .i64 0, .int .i64 0, .int .i64 0] := rfl
  rw [hz6] at hw0
  clear hvm hz6
  go_enter Tryz.func38, Tryz.ntmps38
  go_upto_region 1 with (fail)
  rw [← hw0]
  clear hw0
  go_wp2_with (first
    | (refine wpList_load_rec rfl _ _ rfl w.heap.size rfl _ 6 matT2 hA rfl ?_)
    | fail)
  refine (HMm.out _).mono ?_; rintro e w1 ⟨rfl, hb1⟩
  have B1 := btr hB0 hb1
  replace hN := hN.below hb1
  replace hZ := hZ.below hb1
  clear hb1 hB0 hA
  cases hm : mtB m
  · have hF := hZ.putAll (mtC zeroM) rfl
    have hFB := below_setCells (show w.heap.size ≤ w.heap.size + 1 + 1 by omega) (mtC zeroM) 0 _ B1
    go_wp2_with (first
      | (refine wpList_store_rec rfl _ _ _ rfl (w.heap.size + 1 + 1) (mtC zeroM) _ rfl rfl 6 matT2 hZ rfl rfl (mtC_oneR _) ?_)
      | fail)
    refine bodyPost_ret (result_rec rfl rfl rfl matT2 hF rfl) rfl ?_
    exact ⟨rfl, hFB⟩
  · have hn : mtB n = false := by rw [hm] at hmn; simpa using hmn
    rw [hn] at HMn
    go_wp2_with (first
      | (refine wpList_load_rec_g2 (by kernel_rfl) _ _ rfl (w.heap.size + 1) rfl _ 6 matT2 hN rfl ?_)
      | fail)
    refine (HMn.out _).mono ?_; rintro e w2 ⟨rfl, hb2⟩
    have B2 := btr B1 hb2
    replace hZ := hZ.below hb2
    clear hb2 B1
    have hF := hZ.putAll (mtC zeroM) rfl
    have hFB := below_setCells (show w.heap.size ≤ w.heap.size + 1 + 1 by omega) (mtC zeroM) 0 _ B2
    go_wp2_with (first
      | (refine wpList_store_rec rfl _ _ _ rfl (w.heap.size + 1 + 1) (mtC zeroM) _ rfl rfl 6 matT2 hZ rfl rfl (mtC_oneR _) ?_)
      | fail)
    refine bodyPost_ret (result_rec rfl rfl rfl matT2 hF rfl) rfl ?_
    exact ⟨rfl, hFB⟩
theorem matMul_all (m n : Mt) (R : Mt × Int) (w : World) (hR : mulB m n = R) : Calls Tryz.prog 38 #[mtv m, mtv n] w fun e w' => e = .returned (.tuple #[mtv R.1, .int .i64 R.2]) ∧ Below w.heap.size w w' := by
  subst hR
  unfold mulB
  cases hm : mtB m && mtB n
  · exact matMul_no m n w hm
  · rw [Bool.and_eq_true] at hm
    exact matMul_any m n w hm.1 hm.2
end Go.Proofs.YtdfkbbcoolgfiaaGreat
