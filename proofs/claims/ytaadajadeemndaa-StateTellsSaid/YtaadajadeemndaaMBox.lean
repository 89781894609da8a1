/- path.Box: what it returns, and that what was there is as it was. -/
import Derived.Test.YtaadajadeemndaaAdd
import Derived.Test.YtaadajadeemndaaMBoxP
import Derived.BigRegion
import Derived.Deep.RegionHeld3
import Derived.Deep.DeepCutAuto
namespace Go.Proofs.Ytaadajadeemndaa
open Go.RowKit

/-- Four variables hold a box. -/
structure BxAt (w : World) (g : Nat) (b : Bx) : Prop where
  c0 : w.cell? ⟨g, 0, none⟩ = some (.int .i64 b.x0)
  c1 : w.cell? ⟨g + 1, 0, none⟩ = some (.int .i64 b.y0)
  c2 : w.cell? ⟨g + 2, 0, none⟩ = some (.int .i64 b.x1)
  c3 : w.cell? ⟨g + 3, 0, none⟩ = some (.int .i64 b.y1)
  f0 : w.frozen? ⟨g, 0, none⟩ = false
  f1 : w.frozen? ⟨g + 1, 0, none⟩ = false
  f2 : w.frozen? ⟨g + 2, 0, none⟩ = false
  f3 : w.frozen? ⟨g + 3, 0, none⟩ = false
  hl : g + 3 < w.heap.size

theorem BxAt.below {w w' : World} {g : Nat} {b : Bx} (h : BxAt w g b) (hb : Below w.heap.size w w') : BxAt w' g b := by
  obtain ⟨c0, c1, c2, c3, f0, f1, f2, f3, hl⟩ := h
  exact ⟨(later_cell hb (by omega)).trans c0, (later_cell hb (by omega)).trans c1, (later_cell hb (by omega)).trans c2, (later_cell hb (by omega)).trans c3,
    (later_frozen hb (by omega)).trans f0, (later_frozen hb (by omega)).trans f1, (later_frozen hb (by omega)).trans f2, (later_frozen hb (by omega)).trans f3, Nat.lt_of_lt_of_le hl hb.size⟩

theorem BxAt.set {w : World} {g : Nat} {b : Bx} (h : BxAt w g b) (v0 v1 v2 v3 : Int) :
    BxAt ((((w.setCell ⟨g, 0, none⟩ (.int .i64 v0)).setCell ⟨g + 1, 0, none⟩ (.int .i64 v1)).setCell ⟨g + 2, 0, none⟩ (.int .i64 v2)).setCell ⟨g + 3, 0, none⟩ (.int .i64 v3)).drew g ⟨v0, v1, v2, v3⟩ := by
  obtain ⟨c0, c1, c2, c3, f0, f1, f2, f3, hl⟩ := h
  constructor <;> simp [go_sem, *]

set_option maxHeartbeats 2000000 in
theorem wider_any (x y : Int) (b : Bx) (g : Nat) (W w : World) (hb : Below W.heap.size W w) (hW : W.heap.size ≤ g) (h : BxAt w g b) :
    Calls Try.prog 107 #[.int .i64 x, .int .i64 y, .pointer (some ⟨g, 0, none⟩), .pointer (some ⟨g + 1, 0, none⟩), .pointer (some ⟨g + 2, 0, none⟩), .pointer (some ⟨g + 3, 0, none⟩)] w
      fun e w' => e = .returned (.tuple #[]) ∧ BxAt w' g (wid b x y) ∧ Below W.heap.size W w' ∧ w'.heap.size = w.heap.size ∧ ∀ k i, g + 3 < k → w'.cell? ⟨k, i, none⟩ = w.cell? ⟨k, i, none⟩ := by
  have hs := h.set (loI b.x0 x) (loI b.y0 y) (hiI b.x1 x) (hiI b.y1 y)
  have HS := Lib.hid hs
  obtain ⟨c0, c1, c2, c3, f0, f1, f2, f3, hl⟩ := h
  clear hs
  go_enter Try.func107, Try.ntmps107
  go_wp2
  go_region
  rw [show (if x < b.x0 then x else b.x0) = loI b.x0 x from rfl, show (if y < b.y0 then y else b.y0) = loI b.y0 y from rfl, show (if b.x1 < x then x else b.x1) = hiI b.x1 x from rfl, show (if b.y1 < y then y else b.y1) = hiI b.y1 y from rfl]
  go_end0
  refine ⟨rfl, HS.out, ?_, by simp, fun k i hk => ?_⟩
  · exact bdrew (bset (bset (bset (bset hb (by exact hW) _) (by show _ ≤ g + 1; omega) _) (by show _ ≤ g + 2; omega) _) (by show _ ≤ g + 3; omega) _)
  · show (World.setCell _ _ _).cell? _ = _
    rw [World.cell?_setCell_far _ _ _ _ (by show g + 3 ≠ k; omega), World.cell?_setCell_far _ _ _ _ (by show g + 2 ≠ k; omega), World.cell?_setCell_far _ _ _ _ (by show g + 1 ≠ k; omega), World.cell?_setCell_far _ _ _ _ (by show g ≠ k; omega)]

theorem results_box {fn : Func} {ty : TypeId} (h : fn.results = #[.cell 2 ty, .cell 3 ty, .cell 4 ty, .cell 5 ty, .tmp 6]) (tmps : Array Value) (P : Program) (w : World) :
    (results fn tmps).run P w = ((asAddr (tmps.getD 2 undef)).run P w).andThen fun a0 w => ((loadVar ty a0).run P w).andThen fun v0 w => ((asAddr (tmps.getD 3 undef)).run P w).andThen fun a1 w => ((loadVar ty a1).run P w).andThen fun v1 w =>
      ((asAddr (tmps.getD 4 undef)).run P w).andThen fun a2 w => ((loadVar ty a2).run P w).andThen fun v2 w => ((asAddr (tmps.getD 5 undef)).run P w).andThen fun a3 w => ((loadVar ty a3).run P w).andThen fun v3 w => .ok (.tuple #[v0, v1, v2, v3, tmps.getD 6 undef]) w := by
  simp only [results, h]
  simp [Sem.run_bind, Result.andThen]

theorem ld_int {w : World} {a : Addr} {v : Int} (h : w.cell? a = some (.int .i64 v)) : (loadVar 3 a).run Try.prog w = .ok (.int .i64 v) w := by
  unfold loadVar; go_simp
theorem results_box_ok {fn : Func} (h : fn.results = #[.cell 2 3, .cell 3 3, .cell 4 3, .cell 5 3, .tmp 6]) {tmps : Array Value} {w : World} {g : Nat} {b : Bx} {ok : Bool} (hb : BxAt w g b)
    (h2 : tmps.getD 2 undef = .pointer (some ⟨g, 0, none⟩)) (h3 : tmps.getD 3 undef = .pointer (some ⟨g + 1, 0, none⟩)) (h4 : tmps.getD 4 undef = .pointer (some ⟨g + 2, 0, none⟩)) (h5 : tmps.getD 5 undef = .pointer (some ⟨g + 3, 0, none⟩))
    (h6 : tmps.getD 6 undef = .bool ok) : (results fn tmps).run Try.prog w = .ok (.tuple #[.int .i64 b.x0, .int .i64 b.y0, .int .i64 b.x1, .int .i64 b.y1, .bool ok]) w := by
  have hp : ∀ g, (asAddr (.pointer (some ⟨g, 0, none⟩))).run Try.prog w = .ok ⟨g, 0, none⟩ w := fun g => by go_simp
  rw [results_box h, h2, h3, h4, h5, h6]
  simp only [hp, Result.andThen, ld_int hb.c0, ld_int hb.c1, ld_int hb.c2, ld_int hb.c3]
theorem BxAt.set0 {w : World} {g : Nat} {b : Bx} (h : BxAt w g b) (v0 v1 v2 v3 : Int) :
    BxAt ((((w.setCell ⟨g, 0, none⟩ (.int .i64 v0)).setCell ⟨g + 1, 0, none⟩ (.int .i64 v1)).setCell ⟨g + 2, 0, none⟩ (.int .i64 v2)).setCell ⟨g + 3, 0, none⟩ (.int .i64 v3)) g ⟨v0, v1, v2, v3⟩ := by
  obtain ⟨c0, c1, c2, c3, f0, f1, f2, f3, hl⟩ := h
  constructor <;> simp [go_sem, *]
theorem BxAt.bset {W w : World} {g : Nat} (hb : Below W.heap.size W w) (hW : W.heap.size ≤ g) (u0 u1 u2 u3 : Value) :
    Below W.heap.size W ((((w.setCell ⟨g, 0, none⟩ u0).setCell ⟨g + 1, 0, none⟩ u1).setCell ⟨g + 2, 0, none⟩ u2).setCell ⟨g + 3, 0, none⟩ u3) :=
  Proofs.Ytaadajadeemndaa.bset (Proofs.Ytaadajadeemndaa.bset (Proofs.Ytaadajadeemndaa.bset (Proofs.Ytaadajadeemndaa.bset hb (by exact hW) _) (by show _ ≤ g + 1; omega) _) (by show _ ≤ g + 2; omega) _) (by show _ ≤ g + 3; omega) _
theorem new_box (w : World) (v0 v1 v2 v3 : Int) (t : TypeId) : BxAt ((((w.alloc (.cells #[.int .i64 v0] t)).alloc (.cells #[.int .i64 v1] t)).alloc (.cells #[.int .i64 v2] t)).alloc (.cells #[.int .i64 v3] t)) w.heap.size ⟨v0, v1, v2, v3⟩ := by
  constructor <;> simp [go_sem]

set_option maxHeartbeats 1000000 in
theorem Box_no (A : Option Addr) (n c : Nat) (l : List Sg) (w : World) (hm : n ≤ 1000000) (h : Sl w 5 A n (sgs l)) (hn : l = [] ∨ mayB l = false) :
    Calls Try.prog 67 #[.slice A n c] w fun e w' => e = .returned (.tuple #[.int .i64 0, .int .i64 0, .int .i64 0, .int .i64 0, .bool false]) ∧ Below w.heap.size w w' := by
  have hl := h.sglen
  go_enter Try.func67, Try.ntmps67
  by_cases h0 : n = 0
  · subst h0
    go_wp2
    (try simp only [Exit.inBlock, Exit.then])
    refine bodyPost_ret (v := .tuple #[.int .i64 0, .int .i64 0, .int .i64 0, .int .i64 0, .bool false]) ?_ rfl ⟨rfl, ?_⟩
    · rw [results_box rfl]; go_simp
    · exact bal (bal (bal (bal (Below.refl _ _) _) _) _) _
  · have hmy : mayB l = false := by
      rcases hn with h1 | h1
      · rw [h1] at hl; exact absurd hl.symm h0
      · exact h1
    have hn0 : ((n : Int) == 0) = false := by simp; omega
    have hn1 : (n == 0) = false := by simp; omega
    clear h0
    go_wp2_with fail
    refine (path_May_any _ _ _ l _ hm (h.below (bal (bal (bal (bal (Below.refl _ _) _) _) _) _))).mono ?_; rintro e w1 ⟨rfl, hb1⟩
    have hB := btr (bal (bal (bal (bal (Below.refl w.heap.size w) (.cells #[.int .i64 0] 3)) (.cells #[.int .i64 0] 3)) (.cells #[.int .i64 0] 3)) (.cells #[.int .i64 0] 3)) hb1
    have hbx := (new_box w 0 0 0 0 3).below hb1
    rw [hmy]
    have HB2 := Lib.hid (BxAt.bset hB (Nat.le_refl _) (.int .i64 0) (.int .i64 0) (.int .i64 0) (.int .i64 0))
    have HX2 := Lib.hid (hbx.set0 0 0 0 0)
    obtain ⟨c0, c1, c2, c3, f0, f1, f2, f3, hlt⟩ := hbx
    clear hB
    go_wp2
    (try simp only [Exit.inBlock, Exit.then])
    refine bodyPost_ret (v := .tuple #[.int .i64 0, .int .i64 0, .int .i64 0, .int .i64 0, .bool false]) ?_ rfl ⟨rfl, HB2.out⟩
    clear c0 c1 c2 c3
    obtain ⟨c0, c1, c2, c3, -, -, -, -, -⟩ := HX2.out
    rw [results_box rfl]
    go_simp

end Go.Proofs.Ytaadajadeemndaa

namespace Go.Proofs.Ytaadajadeemndaa
open Go.RowKit

set_option maxHeartbeats 4000000 in
theorem Box_yes (A : Option Addr) (n c : Nat) (l : List Sg) (w : World) (hm : n ≤ 1000000) (h : Sl w 5 A n (sgs l)) (h0 : l ≠ []) (hok : mayB l = true) :
    Calls Try.prog 67 #[.slice A n c] w fun e w' => e = .returned (.tuple #[.int .i64 (boxFrom l).x0, .int .i64 (boxFrom l).y0, .int .i64 (boxFrom l).x1, .int .i64 (boxFrom l).y1, .bool true]) ∧ Below w.heap.size w w' := by
  have hl := h.sglen
  have hn : 1 ≤ n := by have := List.length_pos_iff.2 h0; omega
  have hn0 : ((n : Int) == 0) = false := by simp; omega
  have hn1 : (n == 0) = false := by simp; omega
  have hbf := boxFrom_get l (by omega)
  have HOK := Lib.hid hok
  have HBF := Lib.hid hbf
  clear h0 hok hbf
  go_enter Try.func67, Try.ntmps67
  go_wp2_with fail
  refine (path_May_any _ _ _ l _ hm (h.below (bal (bal (bal (bal (Below.refl _ _) _) _) _) _))).mono ?_; rintro e w1 ⟨rfl, hb1⟩
  rw [HOK.out]
  have hB := btr (bal (bal (bal (bal (Below.refl w.heap.size w) (.cells #[.int .i64 0] 3)) (.cells #[.int .i64 0] 3)) (.cells #[.int .i64 0] 3)) (.cells #[.int .i64 0] 3)) hb1
  have hbx := (new_box w 0 0 0 0 3).below hb1
  have hs1 := h.below hB
  obtain ⟨b, off, rfl, hb, -, d1, d2, -⟩ := hs1.sg 0 (by omega) (by omega)
  rw [Nat.zero_mul, Nat.add_zero] at d1 d2
  obtain ⟨X, hX⟩ : ∃ X, X = (l[0]'(by omega)).x := ⟨_, rfl⟩
  obtain ⟨Y, hY⟩ : ∃ Y, Y = (l[0]'(by omega)).y := ⟨_, rfl⟩
  rw [← hX] at d1 HBF
  rw [← hY] at d2 HBF
  have HB2 := Lib.hid (bdrew (BxAt.bset hB (Nat.le_refl _) (.int .i64 X) (.int .i64 Y) (.int .i64 X) (.int .i64 Y)))
  have HX2 := Lib.hid (hbx.set X Y X Y)
  have hbw : b < w.heap.size := by
    obtain ⟨b', off', e, hb', -⟩ := h.sg 0 (by omega) (by omega)
    injection e with e; injection e with e _; omega
  obtain ⟨c0, c1, c2, c3, f0, f1, f2, f3, hlt⟩ := hbx
  have hz1 : 0 < n := hn
  clear hX hY hB hs1
  go_wp2
  go_region
  have hb3 : Below w.heap.size w (((((w1.setCell ⟨w.heap.size, 0, none⟩ (.int .i64 X)).setCell ⟨w.heap.size + 1, 0, none⟩ (.int .i64 Y)).setCell ⟨w.heap.size + 1 + 1, 0, none⟩ (.int .i64 X)).setCell ⟨w.heap.size + 1 + 1 + 1, 0, none⟩ (.int .i64 Y)).drew) := HB2.out
  have hx3 : BxAt (((((w1.setCell ⟨w.heap.size, 0, none⟩ (.int .i64 X)).setCell ⟨w.heap.size + 1, 0, none⟩ (.int .i64 Y)).setCell ⟨w.heap.size + 1 + 1, 0, none⟩ (.int .i64 X)).setCell ⟨w.heap.size + 1 + 1 + 1, 0, none⟩ (.int .i64 Y)).drew) w.heap.size ⟨X, Y, X, Y⟩ := HX2.out
  generalize ((((w1.setCell ⟨w.heap.size, 0, none⟩ (.int .i64 X)).setCell ⟨w.heap.size + 1, 0, none⟩ (.int .i64 Y)).setCell ⟨w.heap.size + 1 + 1, 0, none⟩ (.int .i64 X)).setCell ⟨w.heap.size + 1 + 1 + 1, 0, none⟩ (.int .i64 Y)).drew = w3 at hb3 hx3 ⊢
  clear HB2 HX2 c0 c1 c2 c3 f0 f1 f2 f3 d1 d2 hlt hb1 hb hn0 hn1
  go_wp2
  go_loopw [37] (fun i wr => ∃ k bx, k ≤ n ∧ i = .int .i64 (k : Int) ∧ Below w.heap.size w wr ∧ BxAt wr w.heap.size bx ∧ Hid (bx = (l.take k).foldl boxStep ⟨X, Y, X, Y⟩)) (fun i _ => n - (intOf i).toNat)
  case atStart => exact ⟨0, _, by omega, rfl, hb3, hx3, rfl⟩
  case round =>
    obtain ⟨wo, rfl⟩ : ∃ wo : World, wo = wr := ⟨_, rfl⟩
    obtain ⟨k, bx, hk, rfl, hbr, hbx, hst⟩ := hrel
    have hhl := hbx.hl
    by_cases hlt : k < n
    · obtain ⟨b', off', e2, hb', d0, d1, d2, d3, d4⟩ := (h.below hbr).sg k hlt (by omega)
      injection e2 with e2; injection e2 with e3 e4; subst e3; subst e4
      have hst2 := fold_take boxStep ⟨X, Y, X, Y⟩ l k (by omega)
      rw [← hst.out] at hst2
      obtain ⟨sk, hsk⟩ : ∃ sk, sk = l[k]'(by omega) := ⟨_, rfl⟩
      rw [← hsk] at d0 d1 d2 d3 d4 hst2
      have HST2 := Lib.hid hst2
      have hbs := hbx.below (bal (Below.refl _ _) (.cells #[.int .i64 sk.kind, .int .i64 sk.x, .int .i64 sk.y, .int .i64 sk.cx, .int .i64 sk.cy] 42))
      clear hst2 hsk hst hb3 hx3
      by_cases h4 : sk.kind = 4
      · have HS := Lib.hid (show bx = (l.take (k + 1)).foldl boxStep ⟨X, Y, X, Y⟩ by rw [HST2.out, boxStep, if_pos h4])
        have h4' : (sk.kind == 4) = true := by simp [h4]
        have h4n : (sk.kind != 4) = false := by simp [h4]
        have h3' : (sk.kind == 3) = false := by simp [h4]
        clear h4 HST2
        go_wp2
        go_roundw
        case rel => exact ⟨k + 1, bx, by omega, by go_num, bal hbr _, hbs, HS⟩
        case measure => simp [intOf]; omega
      · have h4' : (sk.kind == 4) = false := by simp [h4]
        have h4n : (sk.kind != 4) = true := by simp [h4]
        by_cases h3 : sk.kind = 3
        · have HS := Lib.hid (show wid (wid bx sk.cx sk.cy) sk.x sk.y = (l.take (k + 1)).foldl boxStep ⟨X, Y, X, Y⟩ by rw [HST2.out, boxStep, if_neg h4, if_pos h3])
          have h3' : (sk.kind == 3) = true := by simp [h3]
          clear h4 h3 HST2
          go_wp2_with (first
            | (go_at_call 107; refine (wider_any _ _ bx w.heap.size w _ (bal hbr _) (Nat.le_refl _) hbs).mono ?_; rintro e w4 ⟨rfl, hbx4, hbr4, hsz4, hk4⟩; have k0 : w4.cell? ⟨wo.heap.size, 0, none⟩ = some (.int .i64 sk.kind) := (hk4 _ 0 (by omega)).trans (new_cell _ 0); have k1 : w4.cell? ⟨wo.heap.size, 1, none⟩ = some (.int .i64 sk.x) := (hk4 _ 1 (by omega)).trans (new_cell _ 1); have k2 : w4.cell? ⟨wo.heap.size, 2, none⟩ = some (.int .i64 sk.y) := (hk4 _ 2 (by omega)).trans (new_cell _ 2); have k3 : w4.cell? ⟨wo.heap.size, 3, none⟩ = some (.int .i64 sk.cx) := (hk4 _ 3 (by omega)).trans (new_cell _ 3); have k4 : w4.cell? ⟨wo.heap.size, 4, none⟩ = some (.int .i64 sk.cy) := (hk4 _ 4 (by omega)).trans (new_cell _ 4))
            | (go_at_call 107; refine (wider_any _ _ (wid bx sk.cx sk.cy) w.heap.size w _ hbr4 (Nat.le_refl _) hbx4).mono ?_; rintro e w5 ⟨rfl, hbx5, hbr5, hsz5, hk5⟩))
          go_roundw
          case rel => exact ⟨k + 1, _, by omega, by go_num, hbr5, hbx5, HS⟩
          case measure => simp [intOf]; omega
        · have HS := Lib.hid (show wid bx sk.x sk.y = (l.take (k + 1)).foldl boxStep ⟨X, Y, X, Y⟩ by rw [HST2.out, boxStep, if_neg h4, if_neg h3])
          have h3' : (sk.kind == 3) = false := by simp [h3]
          clear h4 h3 HST2
          go_wp2_with (go_at_call 107; refine (wider_any _ _ bx w.heap.size w _ (bal hbr _) (Nat.le_refl _) hbs).mono ?_; rintro e w4 ⟨rfl, hbx4, hbr4, hsz4, hk4⟩; have k0 : w4.cell? ⟨wo.heap.size, 0, none⟩ = some (.int .i64 sk.kind) := (hk4 _ 0 (by omega)).trans (new_cell _ 0); have k1 : w4.cell? ⟨wo.heap.size, 1, none⟩ = some (.int .i64 sk.x) := (hk4 _ 1 (by omega)).trans (new_cell _ 1); have k2 : w4.cell? ⟨wo.heap.size, 2, none⟩ = some (.int .i64 sk.y) := (hk4 _ 2 (by omega)).trans (new_cell _ 2); have k3 : w4.cell? ⟨wo.heap.size, 3, none⟩ = some (.int .i64 sk.cx) := (hk4 _ 3 (by omega)).trans (new_cell _ 3); have k4 : w4.cell? ⟨wo.heap.size, 4, none⟩ = some (.int .i64 sk.cy) := (hk4 _ 4 (by omega)).trans (new_cell _ 4))
          go_roundw
          case rel => exact ⟨k + 1, _, by omega, by go_num, hbr4, hbx4, HS⟩
          case measure => simp [intOf]; omega
    · obtain rfl : k = n := by omega
      have hbl : bx = boxFrom l := by rw [HBF.out, hst.out, List.take_of_length_le (by omega)]
      have HBL := Lib.hid hbl
      have hx9 : BxAt (((((wo.setCell ⟨w.heap.size, 0, none⟩ (.int .i64 bx.x0)).setCell ⟨w.heap.size + 1, 0, none⟩ (.int .i64 bx.y0)).setCell ⟨w.heap.size + 1 + 1, 0, none⟩ (.int .i64 bx.x1)).setCell ⟨w.heap.size + 1 + 1 + 1, 0, none⟩ (.int .i64 bx.y1)).drew) w.heap.size ⟨bx.x0, bx.y0, bx.x1, bx.y1⟩ := hbx.set bx.x0 bx.y0 bx.x1 bx.y1
      have hb9 : Below w.heap.size w (((((wo.setCell ⟨w.heap.size, 0, none⟩ (.int .i64 bx.x0)).setCell ⟨w.heap.size + 1, 0, none⟩ (.int .i64 bx.y0)).setCell ⟨w.heap.size + 1 + 1, 0, none⟩ (.int .i64 bx.x1)).setCell ⟨w.heap.size + 1 + 1 + 1, 0, none⟩ (.int .i64 bx.y1)).drew) := bdrew (BxAt.bset hbr (Nat.le_refl _) (.int .i64 bx.x0) (.int .i64 bx.y0) (.int .i64 bx.x1) (.int .i64 bx.y1))
      have HX9 := Lib.hid hx9
      have HB9 := Lib.hid hb9
      obtain ⟨c0, c1, c2, c3, f0, f1, f2, f3, -⟩ := hbx
      clear hbl hx9 hb9 hst hb3 hx3
      go_wp2
      go_region
      have hb9 := HB9.out
      have hx9 := HX9.out
      generalize ((((wo.setCell ⟨w.heap.size, 0, none⟩ (.int .i64 bx.x0)).setCell ⟨w.heap.size + 1, 0, none⟩ (.int .i64 bx.y0)).setCell ⟨w.heap.size + 1 + 1, 0, none⟩ (.int .i64 bx.x1)).setCell ⟨w.heap.size + 1 + 1 + 1, 0, none⟩ (.int .i64 bx.y1)).drew = w9 at hb9 hx9 ⊢
      clear HX9 HB9 c0 c1 c2 c3 f0 f1 f2 f3
      go_wp2
      (try simp only [Exit.inBlock, Exit.then])
      refine bodyPost_ret (v := .tuple #[.int .i64 bx.x0, .int .i64 bx.y0, .int .i64 bx.x1, .int .i64 bx.y1, .bool true]) ?_ rfl ⟨by rw [HBL.out], hb9⟩
      exact results_box_ok rfl hx9 rfl rfl rfl rfl rfl

theorem Box_any (A : Option Addr) (n c : Nat) (l : List Sg) (p : Bx × Bool) (w : World) (hm : n ≤ 1000000) (h : Sl w 5 A n (sgs l)) (hp : boxL l = p) :
    Calls Try.prog 67 #[.slice A n c] w fun e w' => e = .returned (.tuple #[.int .i64 p.1.x0, .int .i64 p.1.y0, .int .i64 p.1.x1, .int .i64 p.1.y1, .bool p.2]) ∧ Below w.heap.size w w' := by
  subst hp
  by_cases hn : l = [] ∨ mayB l = false
  · have : boxL l = (⟨0, 0, 0, 0⟩, false) := by unfold boxL; rw [if_pos hn]
    rw [this]; exact Box_no A n c l w hm h hn
  · have : boxL l = (boxFrom l, true) := by unfold boxL; rw [if_neg hn]
    rw [this]
    exact Box_yes A n c l w hm h (fun e => hn (.inl e)) (by cases hb : mayB l <;> simp_all)

end Go.Proofs.Ytaadajadeemndaa
