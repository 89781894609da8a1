/- The reference's Number: a number's bytes. -/
import Derived.Test.YtaphmonpdnbiiaaGreatMGl2
import Derived.Test.YtaphmonpdnbiiaaGreatAllP
import Derived.Test.YtaphmonpdnbiiaaGreatMGc
import Derived.Test.YtaphmonpdnbiiaaGreatMRM
namespace Go.Proofs.YtaphmonpdnbiiaaGreat
open Go.RowKit Go.BigFrame

theorem bl_inj {a b : ByteArray} (h : bl a = bl b) : a = b := by
  have h1 : a.data.toList = b.data.toList := by
    unfold bl at h
    exact (List.map_inj_right (fun x y hxy => UInt8.toNat_inj.1 hxy)).1 h
  have h2 : a.data = b.data := Array.toList_inj.1 h1
  cases a; cases b; simp only at h2; rw [h2]
theorem litN1 (W : World) (a : Int) : (convert 62 9 (.slice (some ⟨W.heap.size, 0, none⟩) 1 1)).run Tryz.prog (W.alloc (.cells #[.int .u8 a] 5)) = .ok (.string (strOfNums [a])) (W.alloc (.cells #[.int .u8 a] 5)) := lit_str W [a] 1 rfl
theorem litN2 (W : World) (a b : Int) : (convert 62 9 (.slice (some ⟨W.heap.size, 0, none⟩) 2 2)).run Tryz.prog (W.alloc (.cells #[.int .u8 a, .int .u8 b] 5)) = .ok (.string (strOfNums [a, b])) (W.alloc (.cells #[.int .u8 a, .int .u8 b] 5)) := lit_str W [a, b] 2 rfl
theorem litN3 (W : World) (a b c : Int) : (convert 62 9 (.slice (some ⟨W.heap.size, 0, none⟩) 3 3)).run Tryz.prog (W.alloc (.cells #[.int .u8 a, .int .u8 b, .int .u8 c] 5)) = .ok (.string (strOfNums [a, b, c])) (W.alloc (.cells #[.int .u8 a, .int .u8 b, .int .u8 c] 5)) := lit_str W [a, b, c] 3 rfl
theorem u8w (z : Int) : IntKind.u8.wrap z = z % 256 := by simp [IntKind.wrap, IntKind.bits, IntKind.signed]
theorem u16w (z : Int) : IntKind.u16.wrap z = z % 65536 := by simp [IntKind.wrap, IntKind.bits, IntKind.signed]
theorem and255 {z : Int} (h : 0 ≤ z ∧ z < 65536) : bits .and .u16 z 255 = z % 256 := by
  obtain ⟨n, rfl⟩ := Int.eq_ofNat_of_zero_le h.1
  rw [show (255 : Int) = ((255 : Nat) : Int) from rfl, u16_and_nat n 255 (by omega) (by omega)]
  rw [show (255 : Nat) = 2 ^ 8 - 1 from rfl, Nat.and_two_pow_sub_one_eq_mod]
  simp
set_option maxRecDepth 100000 in
set_option maxHeartbeats 1000000 in
theorem Number_any (v : Int) (w : World) (hv : -32768 ≤ v ∧ v ≤ 32767) :
    Calls Tryz.prog 52 #[.int .i64 v] w fun e w' => ∃ s : ByteArray, e = .returned (.string s) ∧ bl s = putG v ∧ Below w.heap.size w w' := by
  have l1 := litN1
  have l2 := litN2
  have l3 := litN3
  by_cases h1 : -107 ≤ v ∧ v ≤ 107
  · have q0 : IntKind.u8.wrap (v + 139) = v + 139 := by rw [u8w]; omega
    have HR := Lib.hid (show bl (strOfNums [v + 139]) = putG v by unfold putG; rw [if_pos h1, bl_nums (by intro x hx; simp at hx; omega)]; rfl)
    obtain ⟨a1, a2⟩ := h1
    go_enter Tryz.func52, Tryz.ntmps52
    go_wp2
    go_ret
    exact ⟨_, rfl, HR.out, bal (Below.refl _ _) _⟩
  · by_cases h2 : 108 ≤ v ∧ v ≤ 1131
    · have g1 : decide (v ≥ -107) = true := by simp; omega
      have g2 : decide (v ≤ 107) = false := by simp; omega
      have t1 : (v - 108).tdiv 256 = (v - 108) / 256 := Int.tdiv_eq_ediv_of_nonneg (by omega)
      have t2 : (v - 108).tmod 256 = (v - 108) % 256 := Int.tmod_eq_emod_of_nonneg (by omega)
      have q1 : IntKind.u8.wrap (247 + (v - 108) / 256) = 247 + (v - 108) / 256 := by rw [u8w]; omega
      have q2 : IntKind.u8.wrap ((v - 108) % 256) = (v - 108) % 256 := by rw [u8w]; omega
      have HR := Lib.hid (show bl (strOfNums [247 + (v - 108) / 256, (v - 108) % 256]) = putG v by unfold putG; rw [if_neg h1, if_pos h2, bl_nums (by intro x hx; simp at hx; omega)]; rfl)
      obtain ⟨a1, a2⟩ := h2
      go_enter Tryz.func52, Tryz.ntmps52
      go_wp2
      go_ret
      exact ⟨_, rfl, HR.out, bal (Below.refl _ _) _⟩
    · by_cases h3 : -1131 ≤ v ∧ v ≤ -108
      · have g1 : decide (v ≥ -107) = false := by simp; omega
        have g2 : decide (v ≥ 108) = false := by simp; omega
        have t1 : (-v - 108).tdiv 256 = (-v - 108) / 256 := Int.tdiv_eq_ediv_of_nonneg (by omega)
        have t2 : (-v - 108).tmod 256 = (-v - 108) % 256 := Int.tmod_eq_emod_of_nonneg (by omega)
        have q1 : IntKind.u8.wrap (251 + (-v - 108) / 256) = 251 + (-v - 108) / 256 := by rw [u8w]; omega
        have q2 : IntKind.u8.wrap ((-v - 108) % 256) = (-v - 108) % 256 := by rw [u8w]; omega
        have HR := Lib.hid (show bl (strOfNums [251 + (-v - 108) / 256, (-v - 108) % 256]) = putG v by unfold putG; rw [if_neg h1, if_neg h2, if_pos h3, bl_nums (by intro x hx; simp at hx; omega)]; rfl)
        obtain ⟨a1, a2⟩ := h3
        go_enter Tryz.func52, Tryz.ntmps52
        go_wp2
        go_ret
        exact ⟨_, rfl, HR.out, bal (Below.refl _ _) _⟩
      · have hz : 1131 < v ∨ v < -1131 := by omega
        have q0 : IntKind.u16.wrap v = v % 65536 := u16w v
        have q1 : bits .and .u16 (v % 65536) 255 = v % 256 := by rw [and255 (by omega)]; omega
        have q2 : IntKind.u8.wrap (v % 256) = v % 256 := by rw [u8w]; omega
        have q3 : IntKind.u8.wrap (v % 65536 / 256) = v / 256 % 256 := by rw [u8w]; omega
        have HR := Lib.hid (show bl (strOfNums [255, v / 256 % 256, v % 256]) = putG v by unfold putG; rw [if_neg h1, if_neg h2, if_neg h3, bl_nums (by intro x hx; simp at hx; omega)]; rfl)
        rcases hz with hz | hz
        · have g1 : decide (v ≥ -107) = true := by simp; omega
          have g2 : decide (v ≤ 107) = false := by simp; omega
          have g3 : decide (v ≥ 108) = true := by simp; omega
          have g4 : decide (v ≤ 1131) = false := by simp; omega
          have g5 : decide (v ≥ -1131) = true := by simp; omega
          have g6 : decide (v ≤ -108) = false := by simp; omega
          go_enter Tryz.func52, Tryz.ntmps52
          go_wp2
          go_ret
          exact ⟨_, rfl, HR.out, bal (Below.refl _ _) _⟩
        · have g1 : decide (v ≥ -107) = false := by simp; omega
          have g3 : decide (v ≥ 108) = false := by simp; omega
          have g5 : decide (v ≥ -1131) = false := by simp; omega
          go_enter Tryz.func52, Tryz.ntmps52
          go_wp2
          go_ret
          exact ⟨_, rfl, HR.out, bal (Below.refl _ _) _⟩
end Go.Proofs.YtaphmonpdnbiiaaGreat

namespace Go.Proofs.YtaphmonpdnbiiaaGreat
open Go.RowKit Go.BigFrame

def strP (v : Int) : ByteArray := strOfNums ((putG v).map Int.ofNat)
theorem bl_strP (v : Int) : bl (strP v) = putG v := bl_nat (putG_byte v)
theorem strP_size (v : Int) : (strP v).size ≤ 3 := by rw [← bl_len, bl_strP]; exact (putG_len v).1
theorem Number_is (v : Int) (w : World) (hv : -32768 ≤ v ∧ v ≤ 32767) :
    Calls Tryz.prog 52 #[.int .i64 v] w fun e w' => e = .returned (.string (strP v)) ∧ Below w.heap.size w w' := by
  refine (Number_any v w hv).mono ?_; rintro e w' ⟨s, rfl, hs, hb⟩
  have : s = strP v := bl_inj (by rw [hs, bl_strP])
  rw [this]; exact ⟨rfl, hb⟩
theorem bb1 : bl { data := #[1] } = [1] := rfl
theorem bb0 : bl { data := #[0] } = [0] := rfl
theorem bb2 : bl { data := #[2] } = [2] := rfl
theorem bb3 : bl { data := #[3] } = [3] := rfl
theorem bb4 : bl { data := #[4] } = [4] := rfl
theorem bb7 : bl { data := #[7] } = [7] := rfl
theorem bb10 : bl { data := #[10] } = [10] := rfl
def SmC (z : Int) : Prop := -8191 ≤ z ∧ z ≤ 8191
set_option linter.unusedSimpArgs false in
set_option maxRecDepth 100000 in
set_option maxHeartbeats 4000000 in
theorem ref_Code_may (A : Option Addr) (n c : Nat) (l : List Sg) (wide : Int) (w : World) (h : Sl w 5 A n (sgs l)) (hm : mayB l = true) (hw : 0 ≤ wide ∧ wide ≤ 8191) :
    Calls Tryz.prog 28 #[.slice A n c, .int .i64 wide] w fun e w' => ∃ s : ByteArray, e = .returned (.tuple #[.string s, .int .i64 (codeG l wide).2]) ∧ bl s = (codeG l wide).1 ∧ Below w.heap.size w w' := by
  have hl := h.sglen
  have hn3 : n ≤ 300 := by have := (mayB_from hm).2; omega
  obtain ⟨hw1, hw2⟩ := hw
  obtain ⟨C, hC⟩ : ∃ C, codeS l wide = C := ⟨_, rfl⟩
  have hG : codeG l wide = if 600 < C.length then ([], 5) else (C, 0) := by
    unfold codeG; rw [if_neg (by rw [hm]; simp; omega), hC]
  have HG := Lib.hid hG
  have HM := Lib.hid hm
  have HL := Lib.hid hl
  have HC := Lib.hid hC
  have HK := Lib.hid (fun k (hk : k < l.length) => may_kind hm k hk)
  have HB := Lib.hid (fun s hs => may_mem (mayB_from hm).1 s hs)
  clear hG hm hC hl
  go_enter Tryz.func28, Tryz.ntmps28
  go_wp2_with fail
  refine (ref_May_any A n c l _ (by omega) h).mono ?_; rintro e w1 ⟨rfl, hb1⟩
  rw [HM.out]
  have h1 := h.below hb1
  clear h
  have ha := fun a b : ByteArray => ByteArray.size_append (a := a) (b := b)
  have z0 : ({ data := #[0] } : ByteArray).size = 1 := rfl
  have z1 : ({ data := #[1] } : ByteArray).size = 1 := rfl
  have z2 : ({ data := #[2] } : ByteArray).size = 1 := rfl
  have z3 : ({ data := #[3] } : ByteArray).size = 1 := rfl
  have z4 : ({ data := #[4] } : ByteArray).size = 1 := rfl
  have z7 : ({ data := #[7] } : ByteArray).size = 1 := rfl
  have z10 : ({ data := #[10] } : ByteArray).size = 1 := rfl
  have hsw := strP_size wide
  obtain ⟨uw, huw⟩ : ∃ u, (strP wide).size = u := ⟨_, rfl⟩
  rw [huw] at hsw
  go_wp2_with fail
  refine (Number_is wide _ (by omega)).mono ?_; rintro e w2 ⟨rfl, hb2⟩
  have B2 := btr hb1 hb2
  have h2 := h1.below hb2
  have hl0 : bl ({ data := #[0] } ++ strP wide ++ { data := #[1] }) ++ (bodyG 0 0 0 0 (l.drop 0) ++ [10]) = C := by
    rw [bl_add, bl_add, bb0, bb1, bl_strP, ← HC.out, List.drop_zero]; unfold codeS; simp
  have HL0 := Lib.hid hl0
  have hsz0 : ({ data := #[0] } ++ strP wide ++ { data := #[1] } : ByteArray).size ≤ 5 := by rw [ha, ha, z0, z1, huw]; omega
  clear hb1 hb2 h1 hl0
  go_wp2_with fail
  go_loopw [6, 7, 8, 9, 10, 11] (fun s6 s7 s8 s9 s10 s11 wr => ∃ (k : Nat) (t : ByteArray) (x y bx by_ : Int), k ≤ n ∧ s6 = .string t ∧ s7 = .int .i64 x ∧ s8 = .int .i64 y ∧ s9 = .int .i64 bx ∧ s10 = .int .i64 by_ ∧ s11 = .int .i64 (k : Int) ∧ t.size ≤ 5 + 13 * k ∧
    (-8191 ≤ x ∧ x ≤ 8191) ∧ (-8191 ≤ y ∧ y ≤ 8191) ∧ (-8191 ≤ bx ∧ bx ≤ 8191) ∧ (-8191 ≤ by_ ∧ by_ ≤ 8191) ∧ Below w2.heap.size w2 wr ∧ Hid (bl t ++ (bodyG x y bx by_ (l.drop k) ++ [10]) = C)) (fun _ _ _ _ _ s11 _ => n - (intOf s11).toNat)
  case atStart => exact ⟨0, _, 0, 0, 0, 0, by omega, rfl, rfl, rfl, rfl, rfl, rfl, hsz0, by omega, by omega, by omega, by omega, Below.refl _ _, HL0⟩
  case round =>
    obtain ⟨k, t, x, y, bx, by_, hk, rfl, rfl, rfl, rfl, rfl, rfl, hts, hx, hy, hbx, hby, hbr, hT⟩ := hrel
    clear HL0 hsz0
    obtain ⟨m, hm⟩ : ∃ m, t.size = m := ⟨_, rfl⟩
    rw [hm] at hts
    by_cases hlt : k < n
    · have hkl : k < l.length := by rw [HL.out]; exact hlt
      obtain ⟨b, off, rfl, hbl, e0, e1, e2, e3, e4⟩ := (h2.below hbr).sg k hlt hkl
      have hdr : l.drop k = l[k] :: l.drop (k + 1) := List.drop_eq_getElem_cons hkl
      obtain ⟨⟨⟨x1, x2⟩, ⟨y1, y2⟩, ⟨cx1, cx2⟩, ⟨cy1, cy2⟩⟩, hkd⟩ := HB.out _ (List.getElem_mem hkl)
      have hT2 := hT.out
      rw [hdr] at hT2
      obtain ⟨sg, hsg⟩ : ∃ sg, l[k] = sg := ⟨_, rfl⟩
      rw [hsg] at e0 e1 e2 e3 e4 x1 x2 y1 y2 cx1 cx2 cy1 cy2 hkd hT2
      clear hsg hdr hT
      obtain ⟨kd, sx, sy, cx, cy⟩ := sg
      simp only at e0 e1 e2 e3 e4 x1 x2 y1 y2 cx1 cx2 cy1 cy2 hkd
      have wx : wrap64 (sx - x) = sx - x := IntWalk.wrap64_in _ (by omega)
      have wy : wrap64 (sy - y) = sy - y := IntWalk.wrap64_in _ (by omega)
      have wcx : wrap64 (cx - x) = cx - x := IntWalk.wrap64_in _ (by omega)
      have wcy : wrap64 (cy - y) = cy - y := IntWalk.wrap64_in _ (by omega)
      have p1 := strP_size (sx - x)
      have p2 := strP_size (sy - y)
      have p3 := strP_size (cx - x)
      have p4 := strP_size (cy - y)
      obtain ⟨u1, q1⟩ : ∃ u, (strP (sx - x)).size = u := ⟨_, rfl⟩
      obtain ⟨u2, q2⟩ : ∃ u, (strP (sy - y)).size = u := ⟨_, rfl⟩
      obtain ⟨u3, q3⟩ : ∃ u, (strP (cx - x)).size = u := ⟨_, rfl⟩
      obtain ⟨u4, q4⟩ : ∃ u, (strP (cy - y)).size = u := ⟨_, rfl⟩
      rw [q1] at p1
      rw [q2] at p2
      rw [q3] at p3
      rw [q4] at p4
      have N1 := Lib.hid fun W => Number_is (sx - x) W (by omega)
      have N2 := Lib.hid fun W => Number_is (sy - y) W (by omega)
      have N3 := Lib.hid fun W => Number_is (cx - x) W (by omega)
      have N4 := Lib.hid fun W => Number_is (cy - y) W (by omega)
      obtain ⟨wc, hwc⟩ : ∃ wc : World, wc = wr.alloc (.cells #[.int .i64 kd, .int .i64 sx, .int .i64 sy, .int .i64 cx, .int .i64 cy] 44) := ⟨_, rfl⟩
      have hbc : Below wr.heap.size wr wc := by rw [hwc]; exact bal (Below.refl _ _) _
      obtain ⟨g, hg⟩ : ∃ g, g = wr.heap.size := ⟨_, rfl⟩
      have k0 : wc.cell? ⟨g, 0, none⟩ = some (.int .i64 kd) := by rw [hwc, hg]; exact new_cell _ 0
      have k1 : wc.cell? ⟨g, 1, none⟩ = some (.int .i64 sx) := by rw [hwc, hg]; exact new_cell _ 1
      have k2 : wc.cell? ⟨g, 2, none⟩ = some (.int .i64 sy) := by rw [hwc, hg]; exact new_cell _ 2
      have k3 : wc.cell? ⟨g, 3, none⟩ = some (.int .i64 cx) := by rw [hwc, hg]; exact new_cell _ 3
      have k4 : wc.cell? ⟨g, 4, none⟩ = some (.int .i64 cy) := by rw [hwc, hg]; exact new_cell _ 4
      have f1 : wc.frozen? ⟨g, 1, none⟩ = false := by rw [hwc, hg]; exact frozen_of_row _ _ _ _ _ (heap_alloc_new wr _)
      have f2 : wc.frozen? ⟨g, 2, none⟩ = false := by rw [hwc, hg]; exact frozen_of_row _ _ _ _ _ (heap_alloc_new wr _)
      have hgl : g < wc.heap.size := by rw [hwc, hg]; simp
      have hgw : w2.heap.size ≤ g := by rw [hg]; exact hbr.size
      have BC := btr hbr hbc
      rcases hkd with rfl | rfl | rfl | rfl
      · have hT3 := Lib.hid (show bl (t ++ strP (sx - x) ++ strP (sy - y) ++ { data := #[2] }) ++ (bodyG sx sy sx sy (l.drop (k + 1)) ++ [10]) = C by rw [← hT2]; simp [bl_add, bodyG, bl_strP, bb2])
        have hsz : (t ++ strP (sx - x) ++ strP (sy - y) ++ { data := #[2] } : ByteArray).size ≤ 5 + 13 * (k + 1) := by simp only [ha, hm, q1, q2, q3, q4, z2, z3, z4]; omega
        clear hT2
        go_wp2_with fail
        rw [← hwc, ← hg]
        clear hwc hg
        have j1 := fun q : Grown wc => q.cell k1 hgl
        have j2 := fun q : Grown wc => q.cell k2 hgl
        have j3 := fun q : Grown wc => q.cell k3 hgl
        have j4 := fun q : Grown wc => q.cell k4 hgl
        refine wp_region_grown (by kernel_rfl) (by kernel_rfl) ?_
        repeat (go_big_quiet_step (first | (go_at_call 52; with_reducible exact Calls.grown (N1.out _)) | (go_at_call 52; with_reducible exact Calls.grown (N2.out _)) | fail))
        refine wpQuiet_nil ?_
        intro _ hw'
        obtain ⟨xq, hw''⟩ := hw'
        subst hw''
        have b3 := xq.below
        obtain ⟨w3, hw3⟩ : ∃ w3, w3 = xq.world := ⟨_, rfl⟩
        rw [← hw3] at b3 ⊢
        clear hw3 j1 j2 j3 j4
        have d1 := (later_cell b3 hgl).trans k1
        have d2 := (later_cell b3 hgl).trans k2
        have B3 := btr BC b3
        clear k0 k1 k2 k3 k4 f1 f2
        go_wp2_with fail
        go_quiet (fail)
        go_wp2_with fail
        go_quiet (fail)
        go_wp2_with fail
        go_roundw
        case rel => exact ⟨k + 1, _, sx, sy, sx, sy, by omega, rfl, rfl, rfl, rfl, rfl, by simp, hsz, ⟨x1, x2⟩, ⟨y1, y2⟩, by omega, by omega, by first | exact bdrewN (bdrewN B3 _) _ | exact bdrewN B3 _, hT3⟩
        case measure => simp [intOf]; omega
      · have hT3 := Lib.hid (show bl (t ++ strP (sx - x) ++ strP (sy - y) ++ { data := #[3] }) ++ (bodyG sx sy bx by_ (l.drop (k + 1)) ++ [10]) = C by rw [← hT2]; simp [bl_add, bodyG, bl_strP, bb3])
        have hsz : (t ++ strP (sx - x) ++ strP (sy - y) ++ { data := #[3] } : ByteArray).size ≤ 5 + 13 * (k + 1) := by simp only [ha, hm, q1, q2, q3, q4, z2, z3, z4]; omega
        clear hT2
        go_wp2_with fail
        rw [← hwc, ← hg]
        clear hwc hg
        have j1 := fun q : Grown wc => q.cell k1 hgl
        have j2 := fun q : Grown wc => q.cell k2 hgl
        have j3 := fun q : Grown wc => q.cell k3 hgl
        have j4 := fun q : Grown wc => q.cell k4 hgl
        refine wp_region_grown (by kernel_rfl) (by kernel_rfl) ?_
        repeat (go_big_quiet_step (first | (go_at_call 52; with_reducible exact Calls.grown (N1.out _)) | (go_at_call 52; with_reducible exact Calls.grown (N2.out _)) | fail))
        refine wpQuiet_nil ?_
        intro _ hw'
        obtain ⟨xq, hw''⟩ := hw'
        subst hw''
        have b3 := xq.below
        obtain ⟨w3, hw3⟩ : ∃ w3, w3 = xq.world := ⟨_, rfl⟩
        rw [← hw3] at b3 ⊢
        clear hw3 j1 j2 j3 j4
        have d1 := (later_cell b3 hgl).trans k1
        have d2 := (later_cell b3 hgl).trans k2
        have B3 := btr BC b3
        clear k0 k1 k2 k3 k4 f1 f2
        go_wp2_with fail
        go_quiet (fail)
        go_wp2_with fail
        go_roundw
        case rel => exact ⟨k + 1, _, sx, sy, bx, by_, by omega, rfl, rfl, rfl, rfl, rfl, by simp, hsz, ⟨x1, x2⟩, ⟨y1, y2⟩, by omega, by omega, by first | exact bdrewN (bdrewN B3 _) _ | exact bdrewN B3 _, hT3⟩
        case measure => simp [intOf]; omega
      · have hT3 := Lib.hid (show bl (t ++ strP (cx - x) ++ strP (cy - y) ++ strP (sx - x) ++ strP (sy - y) ++ { data := #[4] }) ++ (bodyG sx sy bx by_ (l.drop (k + 1)) ++ [10]) = C by rw [← hT2]; simp [bl_add, bodyG, bl_strP, bb4])
        have hsz : (t ++ strP (cx - x) ++ strP (cy - y) ++ strP (sx - x) ++ strP (sy - y) ++ { data := #[4] } : ByteArray).size ≤ 5 + 13 * (k + 1) := by simp only [ha, hm, q1, q2, q3, q4, z2, z3, z4]; omega
        clear hT2
        go_wp2_with fail
        rw [← hwc, ← hg]
        clear hwc hg
        have j1 := fun q : Grown wc => q.cell k1 hgl
        have j2 := fun q : Grown wc => q.cell k2 hgl
        have j3 := fun q : Grown wc => q.cell k3 hgl
        have j4 := fun q : Grown wc => q.cell k4 hgl
        refine wp_region_grown (by kernel_rfl) (by kernel_rfl) ?_
        repeat (go_big_quiet_step (first | (go_at_call 52; with_reducible exact Calls.grown (N3.out _)) | (go_at_call 52; with_reducible exact Calls.grown (N4.out _)) | (go_at_call 52; with_reducible exact Calls.grown (N1.out _)) | (go_at_call 52; with_reducible exact Calls.grown (N2.out _)) | fail))
        refine wpQuiet_nil ?_
        intro _ hw'
        obtain ⟨xq, hw''⟩ := hw'
        subst hw''
        have b3 := xq.below
        obtain ⟨w3, hw3⟩ : ∃ w3, w3 = xq.world := ⟨_, rfl⟩
        rw [← hw3] at b3 ⊢
        clear hw3 j1 j2 j3 j4
        have d1 := (later_cell b3 hgl).trans k1
        have d2 := (later_cell b3 hgl).trans k2
        have B3 := btr BC b3
        clear k0 k1 k2 k3 k4 f1 f2
        go_wp2_with fail
        go_quiet (fail)
        go_wp2_with fail
        go_roundw
        case rel => exact ⟨k + 1, _, sx, sy, bx, by_, by omega, rfl, rfl, rfl, rfl, rfl, by simp, hsz, ⟨x1, x2⟩, ⟨y1, y2⟩, by omega, by omega, by first | exact bdrewN (bdrewN B3 _) _ | exact bdrewN B3 _, hT3⟩
        case measure => simp [intOf]; omega
      · have hT3 := Lib.hid (show bl (t ++ { data := #[7] }) ++ (bodyG bx by_ bx by_ (l.drop (k + 1)) ++ [10]) = C by rw [← hT2]; simp [bl_add, bodyG, bb7])
        have hsz : (t ++ { data := #[7] } : ByteArray).size ≤ 5 + 13 * (k + 1) := by simp only [ha, hm, z7]; omega
        clear hT2
        go_wp2_with fail
        go_quiet (fail)
        go_wp2_with fail
        go_roundw
        case rel => exact ⟨k + 1, _, bx, by_, bx, by_, by omega, rfl, rfl, rfl, rfl, rfl, by simp, hsz, hbx, hby, hbx, hby, bdrewN (bal hbr _) _, hT3⟩
        case measure => simp [intOf]; omega
    · obtain rfl : k = n := by omega
      have hfin : bl (t ++ { data := #[10] }) = C := by
        rw [bl_add, bb10, ← hT.out, List.drop_of_length_le (by rw [HL.out]; exact Nat.le_refl _)]; rfl
      have hsz : (t ++ { data := #[10] } : ByteArray).size = C.length := by rw [← hfin, bl_len]
      have hszm : C.length = m + 1 := by rw [← hsz, ha, hm, z10]
      have HF := Lib.hid hfin
      have HS := Lib.hid hsz
      have HG2 := HG.out
      rw [hszm] at HG2
      clear hsz hfin
      by_cases h6 : 600 < m + 1
      · rw [if_pos h6] at HG2
        have HG3 := Lib.hid HG2
        have hd : decide (((m + 1 : Nat) : Int) > 600) = true := by simp; omega
        clear HG2
        go_wp2_with fail
        go_ret2
        rw [HG3.out]
        exact ⟨.empty, rfl, rfl, btr B2 hbr⟩
      · rw [if_neg h6] at HG2
        have HG3 := Lib.hid HG2
        have hd : decide (((m + 1 : Nat) : Int) > 600) = false := by simp; omega
        clear HG2
        go_wp2_with fail
        go_ret2
        rw [HG3.out]
        exact ⟨_, rfl, HF.out, btr B2 hbr⟩
set_option maxRecDepth 100000 in
theorem ref_Code_any (A : Option Addr) (n c : Nat) (l : List Sg) (wide : Int) (w : World) (h : Sl w 5 A n (sgs l)) (hn : n ≤ 100000) :
    Calls Tryz.prog 28 #[.slice A n c, .int .i64 wide] w fun e w' => ∃ s : ByteArray, e = .returned (.tuple #[.string s, .int .i64 (codeG l wide).2]) ∧ bl s = (codeG l wide).1 ∧ Below w.heap.size w w' := by
  by_cases hm : mayB l = true
  · by_cases hw : 0 ≤ wide ∧ wide ≤ 8191
    · exact ref_Code_may A n c l wide w h hm hw
    · have hG : codeG l wide = ([], 1) := by unfold codeG; rw [if_pos (by omega)]
      have HG := Lib.hid hG
      have HM := Lib.hid hm
      have gz : (decide (wide < 0) = true) ∨ (decide (wide < 0) = false ∧ decide (wide > 8191) = true) := by simp; omega
      clear hG hm hw
      rcases gz with g1 | ⟨g1, g2⟩
      all_goals
        go_enter Tryz.func28, Tryz.ntmps28
        go_wp2_with fail
        refine (ref_May_any A n c l _ (by omega) h).mono ?_; rintro e w1 ⟨rfl, hb1⟩
        rw [HM.out]
        go_wp2
        go_ret2
        rw [HG.out]
        exact ⟨.empty, rfl, rfl, hb1⟩
  · have hm' : mayB l = false := by cases hh : mayB l; rfl; exact absurd hh hm
    have hG : codeG l wide = ([], 1) := by unfold codeG; rw [if_pos (.inl hm')]
    have HG := Lib.hid hG
    have HM := Lib.hid hm'
    clear hG hm hm'
    go_enter Tryz.func28, Tryz.ntmps28
    go_wp2_with fail
    refine (ref_May_any A n c l _ (by omega) h).mono ?_; rintro e w1 ⟨rfl, hb1⟩
    rw [HM.out]
    go_wp2
    go_ret2
    rw [HG.out]
    exact ⟨.empty, rfl, rfl, hb1⟩
end Go.Proofs.YtaphmonpdnbiiaaGreat
