/- mat: fix, May, round. -/
import Derived.Test.YtdfkbbcoolgfiaaGreatAllP
import Derived.Test.YtdfkbbcoolgfiaaGreatMNum
namespace Go.Proofs.YtdfkbbcoolgfiaaGreat
open Go.RowKit Go.BigFrame

def mtv (m : Mt) : Value := .agg #[.int .i64 m.a, .int .i64 m.b, .int .i64 m.c, .int .i64 m.d, .int .i64 m.e, .int .i64 m.f]
set_option maxRecDepth 100000 in
theorem fix_any (v : Int) (w : World) : Calls Tryz.prog 68 #[.int .i64 v] w fun e w' => e = .returned (.bool (fixB v)) ∧ w = w' := by
  have hs : fixB v = (decide (v ≥ -1073741823) && decide (v ≤ 1073741823)) := rfl
  rw [hs]
  clear hs
  go_enter Tryz.func68, Tryz.ntmps68
  go_wp2
  all_goals
    go_ret
    refine ⟨?_, rfl⟩
    first | (simp_all; done) | (simp_all; omega)
theorem and1M (n : Int) : bits .and .i64 n 1 = n % 2 := by
  show IntKind.i64.wrap ((BitVec.ofInt 64 n &&& BitVec.ofInt 64 1).toNat : Int) = _
  have h1 : (BitVec.ofInt 64 (1 : Int)).toNat = 1 := rfl
  rw [BitVec.toNat_and, h1, Nat.and_one_is_mod, BitVec.toNat_ofInt]
  have h2 : (((n % (2 ^ 64 : Nat)).toNat % 2 : Nat) : Int) = n % 2 := by omega
  rw [h2]
  exact IntWalk.i64_in _ (by omega)
set_option maxRecDepth 100000 in
set_option maxHeartbeats 1000000 in
theorem round16_any (n : Int) (w : World) (hn : -4611686018427387904 ≤ n ∧ n ≤ 4611686018427387904) : Calls Tryz.prog 85 #[.int .i64 n, .int .u64 16] w fun e w' => e = .returned (.int .i64 (rndM 65536 32768 n)) ∧ w = w' := by
  obtain ⟨q, hq⟩ : ∃ q, n / 65536 = q := ⟨_, rfl⟩
  obtain ⟨R, hR⟩ : ∃ R, rndM 65536 32768 n = R := ⟨_, rfl⟩
  have hR2 : R = if n - q * 65536 > 32768 ∨ (n - q * 65536 = 32768 ∧ q % 2 = 1) then q + 1 else q := by rw [← hR, ← hq]; rfl
  rw [hR]
  have HR := Lib.hid hR2
  clear hR hR2
  go_enter Tryz.func85, Tryz.ntmps85
  have ha := and1M q
  go_wp2
  all_goals
    go_ret
    refine ⟨ret_int ?_, rfl⟩
    rw [HR.out]
    clear HR
    split <;> first | rfl | (exfalso; simp_all; done) | (exfalso; simp_all; omega) | (exfalso; omega)
set_option maxRecDepth 100000 in
set_option maxHeartbeats 1000000 in
theorem round32_any (n : Int) (w : World) (hn : -4611686018427387904 ≤ n ∧ n ≤ 4611686018427387904) : Calls Tryz.prog 85 #[.int .i64 n, .int .u64 32] w fun e w' => e = .returned (.int .i64 (rndM 4294967296 2147483648 n)) ∧ w = w' := by
  obtain ⟨q, hq⟩ : ∃ q, n / 4294967296 = q := ⟨_, rfl⟩
  obtain ⟨R, hR⟩ : ∃ R, rndM 4294967296 2147483648 n = R := ⟨_, rfl⟩
  have hR2 : R = if n - q * 4294967296 > 2147483648 ∨ (n - q * 4294967296 = 2147483648 ∧ q % 2 = 1) then q + 1 else q := by rw [← hR, ← hq]; rfl
  rw [hR]
  have HR := Lib.hid hR2
  clear hR hR2
  go_enter Tryz.func85, Tryz.ntmps85
  have ha := and1M q
  go_wp2
  all_goals
    go_ret
    refine ⟨ret_int ?_, rfl⟩
    rw [HR.out]
    clear HR
    split <;> first | rfl | (exfalso; simp_all; done) | (exfalso; simp_all; omega) | (exfalso; omega)
theorem idx6 (a b c d e f : Value) (w : World) : (Instr.index 128 (.agg #[a, b, c, d, e, f]) (.int .i64 0)).run Tryz.prog w = .ok a w ∧ (Instr.index 128 (.agg #[a, b, c, d, e, f]) (.int .i64 1)).run Tryz.prog w = .ok b w ∧ (Instr.index 128 (.agg #[a, b, c, d, e, f]) (.int .i64 2)).run Tryz.prog w = .ok c w ∧
    (Instr.index 128 (.agg #[a, b, c, d, e, f]) (.int .i64 3)).run Tryz.prog w = .ok d w ∧ (Instr.index 128 (.agg #[a, b, c, d, e, f]) (.int .i64 4)).run Tryz.prog w = .ok e w ∧ (Instr.index 128 (.agg #[a, b, c, d, e, f]) (.int .i64 5)).run Tryz.prog w = .ok f w :=
  ⟨by kernel_rfl, by kernel_rfl, by kernel_rfl, by kernel_rfl, by kernel_rfl, by kernel_rfl⟩
def mtL (m : Mt) : List Int := [m.a, m.b, m.c, m.d, m.e, m.f]
theorem mtB_all (m : Mt) : mtB m = (mtL m).all fixB := by simp [mtB, mtL, Bool.and_assoc]
set_option maxRecDepth 100000 in
set_option maxHeartbeats 1000000 in
theorem matMay_any (m : Mt) (w : World) : Calls Tryz.prog 37 #[mtv m] w fun e w' => e = .returned (.bool (mtB m)) ∧ Below w.heap.size w w' := by
  have hM0 := Lib.hid (mtB_all m)
  unfold mtv
  obtain ⟨w0, hw0⟩ : ∃ w0 : World, w0 = w.alloc (.cells #[.int .i64 m.a, .int .i64 m.b, .int .i64 m.c, .int .i64 m.d, .int .i64 m.e, .int .i64 m.f] 23) := ⟨_, rfl⟩
  have hB0 : Below w.heap.size w w0 := by rw [hw0]; exact bal (Below.refl _ _) _
  go_enter Tryz.func37, Tryz.ntmps37
  go_wp2_with fail
  rw [← hw0]
  clear hw0
  go_loopw [18] (fun s18 wr => ∃ i : Nat, i ≤ 6 ∧ s18 = .int .i64 (i : Int) ∧ wr = w0 ∧ Hid (mtB m = ((mtL m).drop i).all fixB)) (fun s18 _ => 6 - (intOf s18).toNat)
  case atStart => exact ⟨0, by omega, rfl, rfl, by rw [List.drop_zero]; exact hM0⟩
  case round =>
    obtain ⟨i, hi, rfl, rfl, hM⟩ := hrel
    have x6 := fun W => idx6 (.int .i64 m.a) (.int .i64 m.b) (.int .i64 m.c) (.int .i64 m.d) (.int .i64 m.e) (.int .i64 m.f) W
    have x0 := fun W => (x6 W).1
    have x1 := fun W => (x6 W).2.1
    have x2 := fun W => (x6 W).2.2.1
    have x3 := fun W => (x6 W).2.2.2.1
    have x4 := fun W => (x6 W).2.2.2.2.1
    have x5 := fun W => (x6 W).2.2.2.2.2
    clear x6 hM0
    have hc : i = 0 ∨ i = 1 ∨ i = 2 ∨ i = 3 ∨ i = 4 ∨ i = 5 ∨ i = 6 := by omega
    rcases hc with rfl | rfl | rfl | rfl | rfl | rfl | rfl
    · go_wp2_with fail
      refine (fix_any m.a _).mono ?_; rintro e w' ⟨rfl, rfl⟩
      cases hf : fixB m.a
      · have HR := Lib.hid (show mtB m = false by rw [hM.out]; simp [mtL, hf])
        go_wp2_with fail
        try rw [Exit.noGoto_ret]
        go_ret
        exact ⟨ret_bool HR.out.symm, hB0⟩
      · have HR := Lib.hid (show mtB m = ((mtL m).drop (0 + 1)).all fixB by rw [hM.out]; simp [mtL, hf])
        go_wp2_with fail
        go_roundw
        case rel => exact ⟨0 + 1, by omega, by go_num, by simp, HR⟩
        case measure => simp [intOf]
    · go_wp2_with fail
      refine (fix_any m.b _).mono ?_; rintro e w' ⟨rfl, rfl⟩
      cases hf : fixB m.b
      · have HR := Lib.hid (show mtB m = false by rw [hM.out]; simp [mtL, hf])
        go_wp2_with fail
        try rw [Exit.noGoto_ret]
        go_ret
        exact ⟨ret_bool HR.out.symm, hB0⟩
      · have HR := Lib.hid (show mtB m = ((mtL m).drop (1 + 1)).all fixB by rw [hM.out]; simp [mtL, hf])
        go_wp2_with fail
        go_roundw
        case rel => exact ⟨1 + 1, by omega, by go_num, by simp, HR⟩
        case measure => simp [intOf]
    · go_wp2_with fail
      refine (fix_any m.c _).mono ?_; rintro e w' ⟨rfl, rfl⟩
      cases hf : fixB m.c
      · have HR := Lib.hid (show mtB m = false by rw [hM.out]; simp [mtL, hf])
        go_wp2_with fail
        try rw [Exit.noGoto_ret]
        go_ret
        exact ⟨ret_bool HR.out.symm, hB0⟩
      · have HR := Lib.hid (show mtB m = ((mtL m).drop (2 + 1)).all fixB by rw [hM.out]; simp [mtL, hf])
        go_wp2_with fail
        go_roundw
        case rel => exact ⟨2 + 1, by omega, by go_num, by simp, HR⟩
        case measure => simp [intOf]
    · go_wp2_with fail
      refine (fix_any m.d _).mono ?_; rintro e w' ⟨rfl, rfl⟩
      cases hf : fixB m.d
      · have HR := Lib.hid (show mtB m = false by rw [hM.out]; simp [mtL, hf])
        go_wp2_with fail
        try rw [Exit.noGoto_ret]
        go_ret
        exact ⟨ret_bool HR.out.symm, hB0⟩
      · have HR := Lib.hid (show mtB m = ((mtL m).drop (3 + 1)).all fixB by rw [hM.out]; simp [mtL, hf])
        go_wp2_with fail
        go_roundw
        case rel => exact ⟨3 + 1, by omega, by go_num, by simp, HR⟩
        case measure => simp [intOf]
    · go_wp2_with fail
      refine (fix_any m.e _).mono ?_; rintro e w' ⟨rfl, rfl⟩
      cases hf : fixB m.e
      · have HR := Lib.hid (show mtB m = false by rw [hM.out]; simp [mtL, hf])
        go_wp2_with fail
        try rw [Exit.noGoto_ret]
        go_ret
        exact ⟨ret_bool HR.out.symm, hB0⟩
      · have HR := Lib.hid (show mtB m = ((mtL m).drop (4 + 1)).all fixB by rw [hM.out]; simp [mtL, hf])
        go_wp2_with fail
        go_roundw
        case rel => exact ⟨4 + 1, by omega, by go_num, by simp, HR⟩
        case measure => simp [intOf]
    · go_wp2_with fail
      refine (fix_any m.f _).mono ?_; rintro e w' ⟨rfl, rfl⟩
      cases hf : fixB m.f
      · have HR := Lib.hid (show mtB m = false by rw [hM.out]; simp [mtL, hf])
        go_wp2_with fail
        try rw [Exit.noGoto_ret]
        go_ret
        exact ⟨ret_bool HR.out.symm, hB0⟩
      · have HR := Lib.hid (show mtB m = ((mtL m).drop (5 + 1)).all fixB by rw [hM.out]; simp [mtL, hf])
        go_wp2_with fail
        go_roundw
        case rel => exact ⟨5 + 1, by omega, by go_num, by simp, HR⟩
        case measure => simp [intOf]
    · have HR := Lib.hid (show mtB m = true by rw [hM.out]; rfl)
      go_wp2_with fail
      go_ret
      exact ⟨ret_bool HR.out.symm, hB0⟩
end Go.Proofs.YtdfkbbcoolgfiaaGreat

namespace Go.Proofs.YtdfkbbcoolgfiaaGreat
open Go.RowKit Go.BigFrame

def oneM : Mt := ⟨65536, 0, 0, 65536, 0, 0⟩
def devM (h : Int) : Mt := ⟨1048576, 0, 0, -1048576, 0, 16 * h * 65536⟩
set_option maxRecDepth 100000 in
theorem matOne_any (w : World) : Calls Tryz.prog 83 #[] w fun e w' => e = .returned (mtv oneM) ∧ Below w.heap.size w w' := by
  go_enter Tryz.func83, Tryz.ntmps83
  go_wp2
  refine bodyPost_ret (v := mtv oneM) (by simp [results, Tryz.results83, go_sem, mtv, oneM]) rfl ?_
  exact ⟨rfl, bal (Below.refl _ _) _⟩
set_option maxRecDepth 100000 in
theorem matDevice_any (h : Int) (w : World) (h1 : 1 ≤ h) (h2 : h ≤ 64) : Calls Tryz.prog 54 #[.int .i64 h] w fun e w' => e = .returned (.tuple #[mtv (devM h), .int .i64 0]) ∧ Below w.heap.size w w' := by
  have wr1 : wrap64 (16 * h) = 16 * h := IntWalk.wrap64_in _ (by omega)
  have wr2 : wrap64 (16 * h * 65536) = 16 * h * 65536 := IntWalk.wrap64_in _ (by omega)
  go_enter Tryz.func54, Tryz.ntmps54
  go_wp2
  refine bodyPost_ret (v := .tuple #[mtv (devM h), .int .i64 0]) (by simp [results, Tryz.results54, go_sem, mtv, devM]) rfl ?_
  exact ⟨rfl, bal (Below.refl _ _) _⟩
theorem fixB_iff {v : Int} : fixB v = true ↔ -1073741823 ≤ v ∧ v ≤ 1073741823 := by simp [fixB]
theorem mul_fix {a b : Int} (ha : fixB a = true) (hb : fixB b = true) : -1152921502459363329 ≤ a * b ∧ a * b ≤ 1152921502459363329 := by
  rw [fixB_iff] at ha hb
  have h1 : a.natAbs ≤ 1073741823 := by omega
  have h2 : b.natAbs ≤ 1073741823 := by omega
  have h3 : (a * b).natAbs ≤ 1073741823 * 1073741823 := by rw [Int.natAbs_mul]; exact Nat.mul_le_mul h1 h2
  omega
theorem mtB_fix {m : Mt} (h : mtB m = true) : fixB m.a = true ∧ fixB m.b = true ∧ fixB m.c = true ∧ fixB m.d = true ∧ fixB m.e = true ∧ fixB m.f = true := by
  simpa [mtB, and_assoc] using h
set_option maxRecDepth 100000 in
theorem matSum_any (a b c d : Int) (w : World) (ha : fixB a = true) (hb : fixB b = true) (hc : fixB c = true) (hd : fixB d = true) :
    Calls Tryz.prog 84 #[.int .i64 a, .int .i64 b, .int .i64 c, .int .i64 d] w fun e w' => e = .returned (.int .i64 (rndM 65536 32768 (a * b + c * d))) ∧ w = w' := by
  have h1 := mul_fix ha hb
  have h2 := mul_fix hc hd
  have HR := Lib.hid fun W => round16_any (a * b + c * d) W (by omega)
  have e1 : wrap64 (a * b) = a * b := IntWalk.wrap64_in _ (by omega)
  have e2 : wrap64 (c * d) = c * d := IntWalk.wrap64_in _ (by omega)
  have e3 : wrap64 (a * b + c * d) = a * b + c * d := IntWalk.wrap64_in _ (by omega)
  clear ha hb hc hd h1 h2
  go_enter Tryz.func84, Tryz.ntmps84
  go_wp2_with fail
  refine (HR.out _).mono ?_; rintro e w' ⟨rfl, rfl⟩
  go_wp2_with fail
  go_ret
  exact ⟨rfl, rfl⟩
/-- A struct's cells in a block. -/
structure BC (w : World) (g : Nat) (C : List Value) : Prop where
  lt : g < w.heap.size
  nf : ∀ i, w.frozen? ⟨g, i, none⟩ = false
  c : ∀ j v, C[j]? = some v → w.cell? ⟨g, j, none⟩ = some v
theorem BC.set {w : World} {g : Nat} {C : List Value} (h : BC w g C) (j : Nat) (u : Value) (hj : j < C.length) : BC (w.setCell ⟨g, j, none⟩ u) g (C.set j u) := by
  refine ⟨by simpa [World.setCell] using h.lt, fun i => by rw [World.frozen?_setCell]; exact h.nf i, fun i v hv => ?_⟩
  by_cases hij : j = i
  · subst hij
    rw [List.getElem?_set_self hj] at hv
    cases hv
    exact World.cell?_setCell_same _ _ _ (h.c j _ (List.getElem?_eq_getElem hj))
  · rw [List.getElem?_set_ne hij] at hv
    rw [World.cell?_setCell_other _ _ _ _ (by intro e; injection e; omega)]
    exact h.c i v hv
theorem BC.below {w w' : World} {g : Nat} {C : List Value} (h : BC w g C) (hb : Below w.heap.size w w') : BC w' g C :=
  ⟨Nat.lt_of_lt_of_le h.lt hb.size, fun i => (later_frozen hb h.lt).trans (h.nf i), fun j v hv => (later_cell hb h.lt).trans (h.c j v hv)⟩
theorem BC.new {w : World} {g : Nat} (cs : List Value) (t : TypeId) (hg : w.heap.size = g) : BC (w.alloc (.cells cs.toArray t)) g cs := by
  subst hg
  exact ⟨by simp, fun i => frozen_of_row _ _ _ _ _ (heap_alloc_new w _), fun j v hv => by rw [new_cell]; simpa using hv⟩
def mtC (m : Mt) : List Value := [.int .i64 m.a, .int .i64 m.b, .int .i64 m.c, .int .i64 m.d, .int .i64 m.e, .int .i64 m.f]
def set6 (w : World) (g : Nat) (m : Mt) : World := (((((w.setCell ⟨g, 0, none⟩ (.int .i64 m.a)).setCell ⟨g, 1, none⟩ (.int .i64 m.b)).setCell ⟨g, 2, none⟩ (.int .i64 m.c)).setCell ⟨g, 3, none⟩ (.int .i64 m.d)).setCell ⟨g, 4, none⟩ (.int .i64 m.e)).setCell ⟨g, 5, none⟩ (.int .i64 m.f)
theorem BC.put6 {w : World} {g : Nat} {m0 : Mt} (h : BC w g (mtC m0)) (m : Mt) : BC (set6 w g m) g (mtC m) :=
  (((((h.set 0 (.int .i64 m.a) (by show 0 < 6; omega)).set 1 (.int .i64 m.b) (by show 1 < 6; omega)).set 2 (.int .i64 m.c) (by show 2 < 6; omega)).set 3 (.int .i64 m.d) (by show 3 < 6; omega)).set 4 (.int .i64 m.e) (by show 4 < 6; omega)).set 5 (.int .i64 m.f) (by show 5 < 6; omega)
theorem set6_below {w0 w : World} {g B : Nat} (h : Below B w0 w) (hg : B ≤ g) (m : Mt) : Below B w0 (set6 w g m) :=
  (((((h.setCell (p := ⟨g, 0, none⟩) hg _).setCell (p := ⟨g, 1, none⟩) hg _).setCell (p := ⟨g, 2, none⟩) hg _).setCell (p := ⟨g, 3, none⟩) hg _).setCell (p := ⟨g, 4, none⟩) hg _).setCell (p := ⟨g, 5, none⟩) hg _
def zeroM : Mt := ⟨0, 0, 0, 0, 0, 0⟩
set_option maxRecDepth 100000 in
set_option maxHeartbeats 1000000 in
theorem matHeld_any (m : Mt) (w : World) : Calls Tryz.prog 86 #[mtv m] w fun e w' => e = .returned (if mtB m then .tuple #[mtv m, .int .i64 0] else .tuple #[mtv zeroM, .int .i64 2]) ∧ Below w.heap.size w w' := by
  obtain ⟨w0, hw0⟩ : ∃ w0 : World, w0 = (w.alloc (.cells #[.int .i64 m.a, .int .i64 m.b, .int .i64 m.c, .int .i64 m.d, .int .i64 m.e, .int .i64 m.f] 23)).alloc (.cells #[.int .i64 0, .int .i64 0, .int .i64 0, .int .i64 0, .int .i64 0, .int .i64 0] 23) := ⟨_, rfl⟩
  have hB0 : Below w.heap.size w w0 := by rw [hw0]; exact bal (bal (Below.refl _ _) _) _
  have hA : BC w0 w.heap.size (mtC m) := by rw [hw0]; exact (BC.new (mtC m) 23 rfl).below (bal (Below.refl _ _) _)
  have hR : BC w0 (w.heap.size + 1) (mtC zeroM) := by rw [hw0]; exact BC.new (w := w.alloc (.cells (mtC m).toArray 23)) (mtC zeroM) 23 (by simp)
  have HM := Lib.hid fun W => matMay_any m W
  unfold mtv at HM ⊢
  obtain ⟨q, hq⟩ : ∃ q, mtB m = q := ⟨_, rfl⟩
  rw [hq] at HM ⊢
  clear hq
  have a0 := hA.c 0 _ rfl
  have a1 := hA.c 1 _ rfl
  have a2 := hA.c 2 _ rfl
  have a3 := hA.c 3 _ rfl
  have a4 := hA.c 4 _ rfl
  have a5 := hA.c 5 _ rfl
  go_enter Tryz.func86, Tryz.ntmps86
  go_wp2_with fail
  rw [← hw0]
  clear hw0 a0 a1 a2 a3 a4 a5
  refine (HM.out _).mono ?_; rintro e w1 ⟨rfl, hb1⟩
  have B1 := btr hB0 hb1
  have hA1 := hA.below hb1
  have hR1 := hR.below hb1
  have a0 := hA1.c 0 _ rfl
  have a1 := hA1.c 1 _ rfl
  have a2 := hA1.c 2 _ rfl
  have a3 := hA1.c 3 _ rfl
  have a4 := hA1.c 4 _ rfl
  have a5 := hA1.c 5 _ rfl
  have b0 := hR1.c 0 _ rfl
  have b1 := hR1.c 1 _ rfl
  have b2 := hR1.c 2 _ rfl
  have b3 := hR1.c 3 _ rfl
  have b4 := hR1.c 4 _ rfl
  have b5 := hR1.c 5 _ rfl
  have f0 := hR1.nf 0
  have f1 := hR1.nf 1
  have f2 := hR1.nf 2
  have f3 := hR1.nf 3
  have f4 := hR1.nf 4
  have f5 := hR1.nf 5
  clear hA hR hb1
  cases q
  · have hP := hR1.put6 zeroM
    have hPB := set6_below B1 (Nat.le_succ _) zeroM
    go_wp2_with fail
    obtain ⟨w2, hw2⟩ : ∃ w2 : World, w2 = set6 w1 (w.heap.size + 1) zeroM := ⟨_, rfl⟩
    rw [← hw2] at hP hPB
    have r0 := hP.c 0 _ rfl
    have r1 := hP.c 1 _ rfl
    have r2 := hP.c 2 _ rfl
    have r3 := hP.c 3 _ rfl
    have r4 := hP.c 4 _ rfl
    have r5 := hP.c 5 _ rfl
    unfold set6 zeroM at hw2
    simp only at hw2
    rw [← hw2]
    refine bodyPost_ret (v := .tuple #[mtv zeroM, .int .i64 2]) (by simp [results, Tryz.results86, go_sem, r0, r1, r2, r3, r4, r5, mtv, zeroM]) rfl ?_
    exact ⟨rfl, hPB⟩
  · have hP := hR1.put6 m
    have hPB := set6_below B1 (Nat.le_succ _) m
    go_wp2_with fail
    obtain ⟨w2, hw2⟩ : ∃ w2 : World, w2 = set6 w1 (w.heap.size + 1) m := ⟨_, rfl⟩
    rw [← hw2] at hP hPB
    have r0 := hP.c 0 _ rfl
    have r1 := hP.c 1 _ rfl
    have r2 := hP.c 2 _ rfl
    have r3 := hP.c 3 _ rfl
    have r4 := hP.c 4 _ rfl
    have r5 := hP.c 5 _ rfl
    unfold set6 at hw2
    rw [← hw2]
    refine bodyPost_ret (v := .tuple #[mtv m, .int .i64 0]) (by simp [results, Tryz.results86, go_sem, r0, r1, r2, r3, r4, r5, mtv]) rfl ?_
    exact ⟨rfl, hPB⟩
end Go.Proofs.YtdfkbbcoolgfiaaGreat
