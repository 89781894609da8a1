/- The reference's Mul. -/
import Derived.Test.YtaphmonpdnbiiaaMat3
import Derived.Test.YtaphmonpdnbiiaaMatR
import Derived.Test.YtaphmonpdnbiiaaRec
import Derived.Test.YtaphmonpdnbiiaaAllP
namespace Go.Proofs.Ytaphmonpdnbiiaa
open Go.RowKit Go.BigFrame

theorem matT2 : RecT Try.prog 25 6 := ⟨_, Try.underlying25, rfl, by kernel_rfl⟩
theorem mtC_oneR (m : Mt) : ∀ v ∈ mtC m, v.oneCell' = true := by
  intro v hv
  simp only [mtC, List.mem_cons, List.not_mem_nil, or_false] at hv
  rcases hv with rfl | rfl | rfl | rfl | rfl | rfl <;> rfl
def heldM (m : Mt) : Mt × Int := if mtB m then (m, 0) else (zeroM, 2)
/-- Of matrices whatever. -/
def mulB (m n : Mt) : Mt × Int := if mtB m && mtB n then mulM m n else (zeroM, 1)
theorem rnd_one {a : Int} : rndM 65536 32768 (65536 * a) = a := by
  unfold rndM
  have h1 : 65536 * a / 65536 = a := by omega
  rw [h1, if_neg (by omega)]
theorem prod_one_l (n : Mt) : prodM oneM n = n := by
  have h0 : rndM 65536 32768 0 = 0 := by decide
  unfold prodM oneM
  simp [rnd_one, h0]
theorem prod_one_r (m : Mt) : prodM m oneM = m := by
  unfold prodM oneM
  simp [Int.mul_comm _ 65536, rnd_one]
theorem mul_held {m n : Mt} (hm : mtB m = true) (hn : mtB n = true) : mulM m n = heldM (prodM m n) := by
  unfold mulM
  cases h1 : eqM m oneM
  · cases h2 : eqM n oneM
    · rfl
    · have := eqM_iff.1 h2
      subst this
      rw [if_neg (by simp), if_pos rfl, prod_one_r]
      unfold heldM
      rw [hm]; rfl
  · have := eqM_iff.1 h1
    subst this
    rw [if_pos rfl, prod_one_l]
    unfold heldM
    rw [hn]; rfl
end Go.Proofs.Ytaphmonpdnbiiaa

namespace Go.Proofs.Ytaphmonpdnbiiaa
open Go.RowKit Go.BigFrame

theorem wpList_load_rec_g2 {P : Program} {ops : Array Oper} {rest : List Oper} {op : Oper} {a : Act} {w : World} {Q : Exit → Act → World → Prop} (hgd : Region.wanted op (yielded ops a.tmps) = true) (t : TypeId) (x : Operand) (ho : op.op = .load t x) (g : Nat)
    (hx : a.eval x = .pointer (some ⟨g, 0, none⟩)) (C : List Value) (n : Nat) (hT : RecT P t n) (h : BC w g C) (hn : C.length = n)
    (hk : wpList P ops Q rest (a.put op.dst (.agg C.toArray)) w) : wpList P ops Q (op :: rest) a w := by
  obtain ⟨d, hu, hd, hi⟩ := hT
  exact wpList_step fun K hK => by
    rw [if_pos hgd]
    exact wp_load_mid t x ho g 0 hx C d h.range hu hd (by rw [hi, hn]) (hK _ _ hk)
theorem add4_in {s e : Int} (h1 : -4611686018427387904 ≤ s) (h2 : s ≤ 4611686018427387904) (he : fixB e = true) : IntKind.i64.wrap (rndM 65536 32768 s + e) = rndM 65536 32768 s + e := by
  have h3 := rndM_le (p := 65536) (h := 32768) (n := s) (by omega)
  rw [fixB_iff] at he
  exact IntWalk.i64_in _ (by omega)
theorem sum4_bd {a b c d : Int} (ha : fixB a = true) (hb : fixB b = true) (hc : fixB c = true) (hd : fixB d = true) :
    -4611686018427387904 ≤ a * b + c * d ∧ a * b + c * d ≤ 4611686018427387904 ∧ IntKind.i64.wrap (a * b) = a * b ∧ IntKind.i64.wrap (c * d) = c * d ∧ IntKind.i64.wrap (a * b + c * d) = a * b + c * d := by
  have h1 := mul_fix ha hb
  have h2 := mul_fix hc hd
  generalize a * b = x at *
  generalize c * d = y at *
  exact ⟨by omega, by omega, IntWalk.i64_in _ (by omega), IntWalk.i64_in _ (by omega), IntWalk.i64_in _ (by omega)⟩
end Go.Proofs.Ytaphmonpdnbiiaa

namespace Go.Proofs.Ytaphmonpdnbiiaa
open Go.RowKit Go.BigFrame

set_option maxRecDepth 100000 in
set_option maxHeartbeats 2000000 in
theorem matMul_no (m n : Mt) (w : World) (hmn : (mtB m && mtB n) = false) : Calls Try.prog 39 #[mtv m, mtv n] w fun e w' => e = .returned (.tuple #[mtv zeroM, .int .i64 1]) ∧ Below w.heap.size w w' := by
  obtain ⟨w0, hw0⟩ : ∃ w0 : World, w0 = ((w.alloc (.cells (mtC m).toArray 25)).alloc (.cells (mtC n).toArray 25)).alloc (.cells (mtC zeroM).toArray 25) := ⟨_, rfl⟩
  have hB0 : Below w.heap.size w w0 := by rw [hw0]; exact bal (bal (bal (Below.refl _ _) _) _) _
  have hA : BC w0 w.heap.size (mtC m) := by rw [hw0]; exact ((BC.new (mtC m) 25 rfl).below (bal (Below.refl _ _) _)).below (bal (Below.refl _ _) _)
  have hN : BC w0 (w.heap.size + 1) (mtC n) := by rw [hw0]; exact (BC.new (w := w.alloc (.cells (mtC m).toArray 25)) (mtC n) 25 (by simp)).below (bal (Below.refl _ _) _)
  have hZ : BC w0 (w.heap.size + 1 + 1) (mtC zeroM) := by rw [hw0]; exact BC.new (w := (w.alloc (.cells (mtC m).toArray 25)).alloc (.cells (mtC n).toArray 25)) (mtC zeroM) 25 (by simp)
  have HMm := Lib.hid fun W => matMay_any m W
  have HMn := Lib.hid fun W => matMay_any n W
  have hvm : ∀ m, mtv m = .agg (mtC m).toArray := fun _ => rfl
  rw [hvm] at HMm HMn
  rw [hvm, hvm, hvm]
  have hz6 : (mtC zeroM).toArray = #[.int .i64 0, .int .i64 0, .int .i64 0, .int .i64 0, .int .i64 0, .int .i64 0] := rfl
  rw [hz6] at hw0
  clear hvm hz6
  go_enter Try.func39, Try.ntmps39
  go_upto_region 1 with (fail)
  rw [← hw0]
  clear hw0
  go_wp2_with (first
    | (refine wpList_load_rec rfl _ _ rfl w.heap.size rfl _ 6 matT2 hA rfl ?_)
    | fail)
  refine (HMm.out _).mono ?_; rintro e w1 ⟨rfl, hb1⟩
  have B1 := btr hB0 hb1
  replace hN := hN.below hb1
  replace hZ := hZ.below hb1
  clear hb1 hB0 hA
  cases hm : mtB m
  · have hF := hZ.putAll (mtC zeroM) rfl
    have hFB := below_setCells (show w.heap.size ≤ w.heap.size + 1 + 1 by omega) (mtC zeroM) 0 _ B1
    go_wp2_with (first
      | (refine wpList_store_rec rfl _ _ _ rfl (w.heap.size + 1 + 1) (mtC zeroM) _ rfl rfl 6 matT2 hZ rfl rfl (mtC_oneR _) ?_)
      | fail)
    refine bodyPost_ret (result_rec rfl rfl rfl matT2 hF rfl) rfl ?_
    exact ⟨rfl, hFB⟩
  · have hn : mtB n = false := by rw [hm] at hmn; simpa using hmn
    rw [hn] at HMn
    go_wp2_with (first
      | (refine wpList_load_rec_g2 (by kernel_rfl) _ _ rfl (w.heap.size + 1) rfl _ 6 matT2 hN rfl ?_)
      | fail)
    refine (HMn.out _).mono ?_; rintro e w2 ⟨rfl, hb2⟩
    have B2 := btr B1 hb2
    replace hZ := hZ.below hb2
    clear hb2 B1
    have hF := hZ.putAll (mtC zeroM) rfl
    have hFB := below_setCells (show w.heap.size ≤ w.heap.size + 1 + 1 by omega) (mtC zeroM) 0 _ B2
    go_wp2_with (first
      | (refine wpList_store_rec rfl _ _ _ rfl (w.heap.size + 1 + 1) (mtC zeroM) _ rfl rfl 6 matT2 hZ rfl rfl (mtC_oneR _) ?_)
      | fail)
    refine bodyPost_ret (result_rec rfl rfl rfl matT2 hF rfl) rfl ?_
    exact ⟨rfl, hFB⟩
theorem matMul_all (m n : Mt) (R : Mt × Int) (w : World) (hR : mulB m n = R) : Calls Try.prog 39 #[mtv m, mtv n] w fun e w' => e = .returned (.tuple #[mtv R.1, .int .i64 R.2]) ∧ Below w.heap.size w w' := by
  subst hR
  unfold mulB
  cases hm : mtB m && mtB n
  · exact matMul_no m n w hm
  · rw [Bool.and_eq_true] at hm
    exact matMul_any m n w hm.1 hm.2
end Go.Proofs.Ytaphmonpdnbiiaa
