/- state: within, may, isRule; path.May of paths of any length; obj.May of a Dict. -/
import Derived.Test.YtdfkbbcoolgfiaaGreatMMay
import Derived.Test.YtdfkbbcoolgfiaaGreatMat4
import Derived.Test.YtdfkbbcoolgfiaaGreatMCls
import Derived.BigRegion
namespace Go.Proofs.YtdfkbbcoolgfiaaGreat
open Go.RowKit Go.BigFrame

set_option maxRecDepth 100000 in
theorem stWithin_any (v lo hi : Int) (w : World) : Calls Tryz.prog 58 #[.int .i64 v, .int .i64 lo, .int .i64 hi] w fun e w' => e = .returned (.bool (inB v lo hi)) ∧ w = w' := by
  have hs : inB v lo hi = (decide (v ≥ lo) && decide (v ≤ hi)) := rfl
  rw [hs]
  clear hs
  go_enter Tryz.func58, Tryz.ntmps58
  go_wp2
  all_goals
    go_ret
    refine ⟨?_, rfl⟩
    first | (simp_all; done) | (simp_all; omega)
set_option maxRecDepth 100000 in
theorem objWithin_any (v lo hi : Int) (w : World) : Calls Tryz.prog 115 #[.int .i64 v, .int .i64 lo, .int .i64 hi] w fun e w' => e = .returned (.bool (inB v lo hi)) ∧ w = w' := by
  have hs : inB v lo hi = (decide (v ≥ lo) && decide (v ≤ hi)) := rfl
  rw [hs]
  clear hs
  go_enter Tryz.func115, Tryz.ntmps115
  go_wp2
  all_goals
    go_ret
    refine ⟨?_, rfl⟩
    first | (simp_all; done) | (simp_all; omega)
theorem inB_fix (v : Int) : inB v (-1073741823) 1073741823 = fixB v := rfl
set_option maxRecDepth 100000 in
theorem stIsRule_any (v : Int) (w : World) : Calls Tryz.prog 24 #[.int .i64 v] w fun e w' => e = .returned (.bool (ruleB v)) ∧ w = w' := by
  have hs : ruleB v = (v == 0 || v == 1) := rfl
  rw [hs]
  clear hs
  go_enter Tryz.func24, Tryz.ntmps24
  go_wp2
  all_goals
    go_ret
    refine ⟨?_, rfl⟩
    first | rfl | (simp_all; done) | (simp_all; omega)
theorem all_take {α : Type} (f : α → Bool) (zs : List α) (k : Nat) (h : k < zs.length) : (zs.take (k + 1)).all f = ((zs.take k).all f && f zs[k]) := by
  rw [List.take_succ_eq_append_getElem h, List.all_append, List.all_cons, List.all_nil, Bool.and_true]
theorem all_out {α : Type} (f : α → Bool) (zs : List α) (k : Nat) (h : k < zs.length) (hc : f zs[k] = false) : zs.all f = false := by
  rw [List.all_eq_false]
  exact ⟨zs[k], List.getElem_mem h, by simp [hc]⟩
set_option maxHeartbeats 400000 in
theorem stmay_any (A : Option Addr) (n c : Nat) (zs : List Int) (w : World) (hm : n ≤ 1000000) (h : Sl w 1 A n (ints zs)) :
    Calls Tryz.prog 60 #[.slice A n c] w fun e w' => e = .returned (.bool (zs.all fixB)) ∧ w = w' := by
  have hl : zs.length = n := by have := h.1; simpa [ints] using this
  go_enter Tryz.func60, Tryz.ntmps60
  go_wp2
  go_loop [7] (fun i => ∃ k : Nat, k ≤ n ∧ i = .int .i64 k ∧ Hid ((zs.take k).all fixB = true)) (fun i => n - (intOf i).toNat)
  case atStart => exact ⟨0, Nat.zero_le _, rfl, by simp [Hid]⟩
  case round =>
    obtain ⟨k, hk, rfl, hn⟩ := hrel
    by_cases hlt : k < n
    · obtain ⟨b, off, rfl, hb, hc⟩ := h.2 (by omega)
      obtain ⟨z, hz⟩ : ∃ z, z = zs[k]'(by omega) := ⟨_, rfl⟩
      have hx : w.cell? ⟨b, off + k, none⟩ = some (.int .i64 z) := hc k _ (by simp [ints, hz, List.getElem?_eq_getElem (show k < zs.length by omega)])
      have HZ := Lib.hid hz
      clear hc hz
      go_wp2_with fail
      refine (stWithin_any z _ _ _).mono ?_; rintro e w' ⟨rfl, rfl⟩
      rw [inB_fix]
      cases hf : fixB z
      · go_wp2_with fail
        go_ret; refine ⟨ret_bool ?_, rfl⟩; rw [all_out fixB zs k (by omega) (by rw [← HZ.out]; exact hf)]
      · go_wp2_with fail
        go_round
        case rel => exact ⟨k + 1, by omega, by go_num, by show List.all _ _ = true; rw [all_take fixB zs k (by omega), hn.out, ← HZ.out, hf]; rfl⟩
        case measure => simp [intOf]; omega
    · go_wp2
      go_ret
      refine ⟨ret_bool ?_, rfl⟩
      have := hn.out
      rw [List.take_of_length_le (by omega)] at this
      exact this.symm
/-- path.May, whatever the length. -/
theorem pathMay_wide (A : Option Addr) (n c : Nat) (l : List Sg) (w : World) (hm : n ≤ 9223372036854775807) (h : Sl w 5 A n (sgs l)) :
    Calls Tryz.prog 57 #[.slice A n c] w fun e w' => e = .returned (.bool (mayB l)) ∧ Below w.heap.size w w' := by
  by_cases hn : n ≤ 1000000
  · exact path_May_any A n c l w hn h
  · have hl := h.sglen
    go_enter Tryz.func57, Tryz.ntmps57
    go_wp2
    go_step3
    go_wp2
    try rw [Exit.noGoto_ret]
    go_ret
    exact ⟨ret_bool (by simp [mayB]; omega), Below.refl _ _⟩

def obC (o : Ob) : List Value := [.int .i64 o.k, .bool o.ex, .int .i64 o.n, .int .i64 o.at_, .int .i64 o.ln, .string o.s]
def obv (o : Ob) : Value := .agg (obC o).toArray
theorem obT : RecT Tryz.prog 30 6 := ⟨_, Tryz.underlying30, rfl, by kernel_rfl⟩
end Go.Proofs.YtdfkbbcoolgfiaaGreat

namespace Go.Proofs.YtdfkbbcoolgfiaaGreat
open Go.RowKit Go.BigFrame

set_option maxRecDepth 100000 in
theorem rIsFix_any (v : Int) (w : World) : Calls Tryz.prog 66 #[.int .i64 v] w fun e w' => e = .returned (.bool (fixB v)) ∧ w = w' := by
  have hs : (fixB v) = (decide (v ≥ -1073741823) && decide (v ≤ 1073741823)) := rfl
  rw [hs]
  clear hs
  go_enter Tryz.func66, Tryz.ntmps66
  go_wp2
  all_goals
    go_ret
    refine ⟨?_, rfl⟩
    first | (simp_all; done) | (simp_all; omega)
set_option maxRecDepth 100000 in
theorem rIsCoord_any (v : Int) (w : World) : Calls Tryz.prog 99 #[.int .i64 v] w fun e w' => e = .returned (.bool (inB v (-8191) 8191)) ∧ w = w' := by
  have hs : (inB v (-8191) 8191) = (decide (v ≥ -8191) && decide (v ≤ 8191)) := rfl
  rw [hs]
  clear hs
  go_enter Tryz.func99, Tryz.ntmps99
  go_wp2
  all_goals
    go_ret
    refine ⟨?_, rfl⟩
    first | (simp_all; done) | (simp_all; omega)
set_option maxRecDepth 100000 in
set_option maxHeartbeats 1000000 in
theorem rEven32_any (n : Int) (w : World) (hn : -4611686018427387904 ≤ n ∧ n ≤ 4611686018427387904) : Calls Tryz.prog 89 #[.int .i64 n, .int .i64 32] w fun e w' => e = .returned (.int .i64 (rndM 4294967296 2147483648 n)) ∧ w = w' := by
  obtain ⟨q, hq⟩ : ∃ q, n / 4294967296 = q := ⟨_, rfl⟩
  obtain ⟨R, hR⟩ : ∃ R, rndM 4294967296 2147483648 n = R := ⟨_, rfl⟩
  have hR2 : R = if n - q * 4294967296 > 2147483648 ∨ (n - q * 4294967296 = 2147483648 ∧ q % 2 = 1) then q + 1 else q := by rw [← hR, ← hq]; rfl
  rw [hR]
  have HR := Lib.hid hR2
  clear hR hR2
  go_enter Tryz.func89, Tryz.ntmps89
  have ha := and1M q
  go_wp2
  all_goals
    go_ret
    refine ⟨ret_int ?_, rfl⟩
    rw [HR.out]
    clear HR
    split <;> first | rfl | (exfalso; simp_all; done) | (exfalso; simp_all; omega) | (exfalso; omega)
set_option maxRecDepth 100000 in
set_option maxHeartbeats 1000000 in
theorem rMay_any (m : Mt) (w : World) : Calls Tryz.prog 40 #[mtv m] w fun e w' => e = .returned (.bool (mtB m)) ∧ Below w.heap.size w w' := by
  unfold mtv
  obtain ⟨w0, hw0⟩ : ∃ w0 : World, w0 = w.alloc (.cells #[.int .i64 m.a, .int .i64 m.b, .int .i64 m.c, .int .i64 m.d, .int .i64 m.e, .int .i64 m.f] 23) := ⟨_, rfl⟩
  have hB0 : Below w.heap.size w w0 := by rw [hw0]; exact bal (Below.refl _ _) _
  have hA : BC w0 w.heap.size (mtC m) := by rw [hw0]; exact BC.new (mtC m) 23 rfl
  have a0 := hA.c 0 _ rfl
  have a1 := hA.c 1 _ rfl
  have a2 := hA.c 2 _ rfl
  have a3 := hA.c 3 _ rfl
  have a4 := hA.c 4 _ rfl
  have a5 := hA.c 5 _ rfl
  go_enter Tryz.func40, Tryz.ntmps40
  go_upto_region 1 with (fail)
  rw [← hw0]
  clear hw0
  go_wp2_with fail
  refine (rIsFix_any m.a _).mono ?_; rintro e w' ⟨rfl, rfl⟩
  cases f0 : fixB m.a
  case false =>
    go_wp2_with fail
    go_ret
    exact ⟨ret_bool (by simp [mtB, f0]), hB0⟩
  go_wp2_with fail
  refine (rIsFix_any m.b _).mono ?_; rintro e w' ⟨rfl, rfl⟩
  cases f1 : fixB m.b
  case false =>
    go_wp2_with fail
    go_ret
    exact ⟨ret_bool (by simp [mtB, f1]), hB0⟩
  go_wp2_with fail
  refine (rIsFix_any m.c _).mono ?_; rintro e w' ⟨rfl, rfl⟩
  cases f2 : fixB m.c
  case false =>
    go_wp2_with fail
    go_ret
    exact ⟨ret_bool (by simp [mtB, f2]), hB0⟩
  go_wp2_with fail
  refine (rIsFix_any m.d _).mono ?_; rintro e w' ⟨rfl, rfl⟩
  cases f3 : fixB m.d
  case false =>
    go_wp2_with fail
    go_ret
    exact ⟨ret_bool (by simp [mtB, f3]), hB0⟩
  go_wp2_with fail
  refine (rIsFix_any m.e _).mono ?_; rintro e w' ⟨rfl, rfl⟩
  cases f4 : fixB m.e
  case false =>
    go_wp2_with fail
    go_ret
    exact ⟨ret_bool (by simp [mtB, f4]), hB0⟩
  go_wp2_with fail
  refine (rIsFix_any m.f _).mono ?_; rintro e w' ⟨rfl, rfl⟩
  cases f5 : fixB m.f
  · go_wp2_with fail
    go_ret
    exact ⟨ret_bool (by simp [mtB, f5]), hB0⟩
  · go_wp2_with fail
    go_ret
    exact ⟨ret_bool (by simp [mtB, f0, f1, f2, f3, f4, f5]), hB0⟩
set_option maxRecDepth 100000 in
set_option maxHeartbeats 1000000 in
theorem rTwo_any (x y : Int) (k : Int) (hk : 0 ≤ k ∧ k ≤ 100000) (w : World) : Calls Tryz.prog 142 #[.int .i64 x, .int .i64 y, .int .i64 k] w fun e w' => e = .returned (vP (nearP x y k)) ∧ w = w' := by
  obtain ⟨R, hR⟩ : ∃ R, nearP x y k = R := ⟨_, rfl⟩
  have HR := Lib.hid hR
  rw [hR]
  clear hR
  have wn : wrap64 (-k) = -k := IntWalk.wrap64_in _ (by omega)
  go_enter Tryz.func142, Tryz.ntmps142
  go_wp2
  all_goals
    go_ret3
    refine ⟨?_, rfl⟩
    rw [← HR.out]
    unfold nearP
    split
    · first | rfl | (exfalso; simp_all; done) | (exfalso; simp_all; omega) | (exfalso; omega)
    · first | rfl | (exfalso; simp_all; done) | (exfalso; simp_all; omega) | (exfalso; omega)
set_option maxRecDepth 100000 in
set_option maxHeartbeats 1000000 in
theorem rTwo_big (x y : Int)  (w : World) : Calls Tryz.prog 142 #[.int .i64 x, .int .i64 y, .int .i64 1073741823] w fun e w' => e = .returned (vP (nearP x y 1073741823)) ∧ w = w' := by
  obtain ⟨R, hR⟩ : ∃ R, nearP x y 1073741823 = R := ⟨_, rfl⟩
  have HR := Lib.hid hR
  rw [hR]
  clear hR
  skip
  go_enter Tryz.func142, Tryz.ntmps142
  go_wp2
  all_goals
    go_ret3
    refine ⟨?_, rfl⟩
    rw [← HR.out]
    unfold nearP
    split
    · first | rfl | (exfalso; simp_all; done) | (exfalso; simp_all; omega) | (exfalso; omega)
    · first | rfl | (exfalso; simp_all; done) | (exfalso; simp_all; omega) | (exfalso; omega)
set_option maxRecDepth 100000 in
set_option maxHeartbeats 1000000 in
theorem rFair_any (m : Mt) (x y : Int) (w : World) : Calls Tryz.prog 150 #[mtv m, .int .i64 x, .int .i64 y] w fun e w' => e = .returned (.bool (mtB m && fixB x && fixB y)) ∧ Below w.heap.size w w' := by
  obtain ⟨w0, hw0⟩ : ∃ w0 : World, w0 = w.alloc (.cells #[.int .i64 m.a, .int .i64 m.b, .int .i64 m.c, .int .i64 m.d, .int .i64 m.e, .int .i64 m.f] 23) := ⟨_, rfl⟩
  have hB0 : Below w.heap.size w w0 := by rw [hw0]; exact bal (Below.refl _ _) _
  have hA : BC w0 w.heap.size (mtC m) := by rw [hw0]; exact BC.new (mtC m) 23 rfl
  have HM := Lib.hid fun W => rMay_any m W
  unfold mtv at HM ⊢
  obtain ⟨q, hq⟩ : ∃ q, mtB m = q := ⟨_, rfl⟩
  rw [hq] at HM ⊢
  clear hq
  have a0 := hA.c 0 _ rfl
  have a1 := hA.c 1 _ rfl
  have a2 := hA.c 2 _ rfl
  have a3 := hA.c 3 _ rfl
  have a4 := hA.c 4 _ rfl
  have a5 := hA.c 5 _ rfl
  go_enter Tryz.func150, Tryz.ntmps150
  go_wp2_with fail
  rw [← hw0]
  clear hw0 a0 a1 a2 a3 a4 a5
  refine (HM.out _).mono ?_; rintro e w1 ⟨rfl, hb1⟩
  have B1 := btr hB0 hb1
  clear hA hb1
  cases q
  · go_wp2_with fail
    go_ret
    exact ⟨ret_bool (by simp), B1⟩
  · go_wp2_with fail
    refine (rIsFix_any x _).mono ?_; rintro e w' ⟨rfl, rfl⟩
    cases hx : fixB x
    · go_wp2_with fail
      go_ret
      exact ⟨ret_bool (by simp [hx]), B1⟩
    · go_wp2_with fail
      refine (rIsFix_any y _).mono ?_; rintro e w' ⟨rfl, rfl⟩
      go_wp2_with fail
      go_ret
      exact ⟨ret_bool (by simp [hx]), B1⟩
set_option maxRecDepth 100000 in
set_option maxHeartbeats 2000000 in
theorem rPoint_any (m : Mt) (x y : Int) (w : World) : Calls Tryz.prog 171 #[mtv m, .int .i64 x, .int .i64 y] w fun e w' => e = .returned (vP (pointM m x y)) ∧ Below w.heap.size w w' := by
  obtain ⟨w0, hw0⟩ : ∃ w0 : World, w0 = w.alloc (.cells #[.int .i64 m.a, .int .i64 m.b, .int .i64 m.c, .int .i64 m.d, .int .i64 m.e, .int .i64 m.f] 23) := ⟨_, rfl⟩
  have hB0 : Below w.heap.size w w0 := by rw [hw0]; exact bal (Below.refl _ _) _
  have hA : BC w0 w.heap.size (mtC m) := by rw [hw0]; exact BC.new (mtC m) 23 rfl
  have HG := Lib.hid fun W => rFair_any m x y W
  unfold mtv at HG ⊢
  obtain ⟨q, hq⟩ : ∃ q, (mtB m && fixB x && fixB y) = q := ⟨_, rfl⟩
  obtain ⟨R, hR⟩ : ∃ R, pointM m x y = R := ⟨_, rfl⟩
  have HR := Lib.hid hR
  have HQ := Lib.hid hq
  rw [hq] at HG
  rw [hR]
  clear hq hR
  have a0 := hA.c 0 _ rfl
  have a1 := hA.c 1 _ rfl
  have a2 := hA.c 2 _ rfl
  have a3 := hA.c 3 _ rfl
  have a4 := hA.c 4 _ rfl
  have a5 := hA.c 5 _ rfl
  go_enter Tryz.func171, Tryz.ntmps171
  go_wp2_with fail
  rw [← hw0]
  clear hw0 a0 a1 a2 a3 a4 a5
  refine (HG.out _).mono ?_; rintro e w1 ⟨rfl, hb1⟩
  have B1 := btr hB0 hb1
  replace hA := hA.below hb1
  clear hb1
  cases q
  · have HR2 := Lib.hid (show R = (0, 0, 1) by rw [← HR.out]; unfold pointM; rw [HQ.out]; rfl)
    go_wp2_with fail
    go_ret3
    refine ⟨?_, B1⟩
    rw [HR2.out]
    rfl
  · have HR2 := Lib.hid (show R = nearP _ _ 8191 by rw [← HR.out]; unfold pointM; rw [HQ.out]; rfl)
    obtain ⟨⟨hm, hx⟩, hy⟩ : (mtB m = true ∧ fixB x = true) ∧ fixB y = true := by simpa using HQ.out
    have hf := mtB_fix hm
    have p1 := mul_fix hf.1 hx
    have p2 := mul_fix hf.2.2.1 hy
    have p3 := mul_fix hf.2.1 hx
    have p4 := mul_fix hf.2.2.2.1 hy
    have p5 := fixB_iff.1 hf.2.2.2.2.1
    have p6 := fixB_iff.1 hf.2.2.2.2.2
    have e1 : IntKind.i64.wrap (m.a * x) = m.a * x := IntWalk.i64_in _ (by omega)
    have e2 : IntKind.i64.wrap (m.c * y) = m.c * y := IntWalk.i64_in _ (by omega)
    have e3 : IntKind.i64.wrap (m.b * x) = m.b * x := IntWalk.i64_in _ (by omega)
    have e4 : IntKind.i64.wrap (m.d * y) = m.d * y := IntWalk.i64_in _ (by omega)
    have e5 : IntKind.i64.wrap (m.a * x + m.c * y) = m.a * x + m.c * y := IntWalk.i64_in _ (by omega)
    have e6 : IntKind.i64.wrap (m.b * x + m.d * y) = m.b * x + m.d * y := IntWalk.i64_in _ (by omega)
    have e7 : IntKind.i64.wrap (m.e * 65536) = m.e * 65536 := IntWalk.i64_in _ (by omega)
    have e8 : IntKind.i64.wrap (m.f * 65536) = m.f * 65536 := IntWalk.i64_in _ (by omega)
    have e9 : IntKind.i64.wrap (m.a * x + m.c * y + m.e * 65536) = m.a * x + m.c * y + m.e * 65536 := IntWalk.i64_in _ (by omega)
    have e10 : IntKind.i64.wrap (m.b * x + m.d * y + m.f * 65536) = m.b * x + m.d * y + m.f * 65536 := IntWalk.i64_in _ (by omega)
    have H1 := Lib.hid fun W => rEven32_any (m.a * x + m.c * y + m.e * 65536) W (by omega)
    have H2 := Lib.hid fun W => rEven32_any (m.b * x + m.d * y + m.f * 65536) W (by omega)
    have H3 := Lib.hid fun W => rTwo_any (rndM 4294967296 2147483648 ((m.a * x + m.c * y + m.e * 65536))) (rndM 4294967296 2147483648 ((m.b * x + m.d * y + m.f * 65536))) 8191 (by omega) W
    unfold vP at H3
    have a0 := hA.c 0 _ rfl
    have a1 := hA.c 1 _ rfl
    have a2 := hA.c 2 _ rfl
    have a3 := hA.c 3 _ rfl
    have a4 := hA.c 4 _ rfl
    have a5 := hA.c 5 _ rfl
    clear p1 p2 p3 p4 p5 p6 hm hx hy hf HQ
    go_wp2_with fail
    go_quiet (first
      | (go_at_call 89; with_reducible exact quiet_left (H1.out _))
      | (go_at_call 89; with_reducible exact quiet_left (H2.out _))
      | (go_at_call 142; with_reducible exact quiet_left (H3.out _))
      | fail)
    go_wp2_with fail
    go_ret3
    refine ⟨?_, btr B1 (bdrewN (Below.refl _ _) _)⟩
    rw [HR2.out]
    rfl
end Go.Proofs.YtdfkbbcoolgfiaaGreat
