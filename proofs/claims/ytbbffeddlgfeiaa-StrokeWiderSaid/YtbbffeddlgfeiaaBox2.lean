/- path.Box of a valid path. -/
import Derived.Test.YtbbffeddlgfeiaaBox
namespace Go.Proofs.Ytbbffeddlgfeiaa
open Go.RowKit

set_option maxHeartbeats 4000000 in
theorem Box_yes (A : Option Addr) (n c : Nat) (l : List Sg) (w : World) (hm : n ≤ 1000000) (h : Sl w 5 A n (sgs l)) (h0 : l ≠ []) (hok : mayB l = true) :
    Calls Try.prog 15 #[.slice A n c] w fun e w' => e = .returned (.tuple #[.int .i64 (boxFrom l).x0, .int .i64 (boxFrom l).y0, .int .i64 (boxFrom l).x1, .int .i64 (boxFrom l).y1, .bool true]) ∧ Below w.heap.size w w' := by
  have hl := h.sglen
  have hn : 1 ≤ n := by have := List.length_pos_iff.2 h0; omega
  have hn0 : ((n : Int) == 0) = false := by simp; omega
  have hn1 : (n == 0) = false := by simp; omega
  have hbf := boxFrom_get l (by omega)
  have HOK := Lib.hid hok
  have HBF := Lib.hid hbf
  clear h0 hok hbf
  go_enter Try.func15, Try.ntmps15
  go_wp2_with fail
  refine (path_May_any _ _ _ l _ hm (h.below (bal (bal (bal (bal (Below.refl _ _) _) _) _) _))).mono ?_; rintro e w1 ⟨rfl, hb1⟩
  rw [HOK.out]
  have hB := btr (bal (bal (bal (bal (Below.refl w.heap.size w) (.cells #[.int .i64 0] 3)) (.cells #[.int .i64 0] 3)) (.cells #[.int .i64 0] 3)) (.cells #[.int .i64 0] 3)) hb1
  have hbx := (new_box w 0 0 0 0 3).below hb1
  have hs1 := h.below hB
  obtain ⟨b, off, rfl, hb, -, d1, d2, -⟩ := hs1.sg 0 (by omega) (by omega)
  rw [Nat.zero_mul, Nat.add_zero] at d1 d2
  obtain ⟨X, hX⟩ : ∃ X, X = (l[0]'(by omega)).x := ⟨_, rfl⟩
  obtain ⟨Y, hY⟩ : ∃ Y, Y = (l[0]'(by omega)).y := ⟨_, rfl⟩
  rw [← hX] at d1 HBF
  rw [← hY] at d2 HBF
  have HB2 := Lib.hid (bdrew (BxAt.bset hB (Nat.le_refl _) (.int .i64 X) (.int .i64 Y) (.int .i64 X) (.int .i64 Y)))
  have HX2 := Lib.hid (hbx.set X Y X Y)
  have hbw : b < w.heap.size := by
    obtain ⟨b', off', e, hb', -⟩ := h.sg 0 (by omega) (by omega)
    injection e with e; injection e with e _; omega
  obtain ⟨c0, c1, c2, c3, f0, f1, f2, f3, hlt⟩ := hbx
  have hz1 : 0 < n := hn
  clear hX hY hB hs1
  go_wp2
  go_region
  have hb3 : Below w.heap.size w (((((w1.setCell ⟨w.heap.size, 0, none⟩ (.int .i64 X)).setCell ⟨w.heap.size + 1, 0, none⟩ (.int .i64 Y)).setCell ⟨w.heap.size + 1 + 1, 0, none⟩ (.int .i64 X)).setCell ⟨w.heap.size + 1 + 1 + 1, 0, none⟩ (.int .i64 Y)).drew) := HB2.out
  have hx3 : BxAt (((((w1.setCell ⟨w.heap.size, 0, none⟩ (.int .i64 X)).setCell ⟨w.heap.size + 1, 0, none⟩ (.int .i64 Y)).setCell ⟨w.heap.size + 1 + 1, 0, none⟩ (.int .i64 X)).setCell ⟨w.heap.size + 1 + 1 + 1, 0, none⟩ (.int .i64 Y)).drew) w.heap.size ⟨X, Y, X, Y⟩ := HX2.out
  generalize ((((w1.setCell ⟨w.heap.size, 0, none⟩ (.int .i64 X)).setCell ⟨w.heap.size + 1, 0, none⟩ (.int .i64 Y)).setCell ⟨w.heap.size + 1 + 1, 0, none⟩ (.int .i64 X)).setCell ⟨w.heap.size + 1 + 1 + 1, 0, none⟩ (.int .i64 Y)).drew = w3 at hb3 hx3 ⊢
  clear HB2 HX2 c0 c1 c2 c3 f0 f1 f2 f3 d1 d2 hlt hb1 hb hn0 hn1
  go_wp2
  go_loopw [37] (fun i wr => ∃ k bx, k ≤ n ∧ i = .int .i64 (k : Int) ∧ Below w.heap.size w wr ∧ BxAt wr w.heap.size bx ∧ Hid (bx = (l.take k).foldl boxStep ⟨X, Y, X, Y⟩)) (fun i _ => n - (intOf i).toNat)
  case atStart => exact ⟨0, _, by omega, rfl, hb3, hx3, rfl⟩
  case round =>
    obtain ⟨wo, rfl⟩ : ∃ wo : World, wo = wr := ⟨_, rfl⟩
    obtain ⟨k, bx, hk, rfl, hbr, hbx, hst⟩ := hrel
    have hhl := hbx.hl
    by_cases hlt : k < n
    · obtain ⟨b', off', e2, hb', d0, d1, d2, d3, d4⟩ := (h.below hbr).sg k hlt (by omega)
      injection e2 with e2; injection e2 with e3 e4; subst e3; subst e4
      have hst2 := fold_take boxStep ⟨X, Y, X, Y⟩ l k (by omega)
      rw [← hst.out] at hst2
      obtain ⟨sk, hsk⟩ : ∃ sk, sk = l[k]'(by omega) := ⟨_, rfl⟩
      rw [← hsk] at d0 d1 d2 d3 d4 hst2
      have HST2 := Lib.hid hst2
      have hbs := hbx.below (bal (Below.refl _ _) (.cells #[.int .i64 sk.kind, .int .i64 sk.x, .int .i64 sk.y, .int .i64 sk.cx, .int .i64 sk.cy] 35))
      clear hst2 hsk hst hb3 hx3
      by_cases h4 : sk.kind = 4
      · have HS := Lib.hid (show bx = (l.take (k + 1)).foldl boxStep ⟨X, Y, X, Y⟩ by rw [HST2.out, boxStep, if_pos h4])
        have h4' : (sk.kind == 4) = true := by simp [h4]
        have h4n : (sk.kind != 4) = false := by simp [h4]
        have h3' : (sk.kind == 3) = false := by simp [h4]
        clear h4 HST2
        go_wp2
        go_roundw
        case rel => exact ⟨k + 1, bx, by omega, by go_num, bal hbr _, hbs, HS⟩
        case measure => simp [intOf]; omega
      · have h4' : (sk.kind == 4) = false := by simp [h4]
        have h4n : (sk.kind != 4) = true := by simp [h4]
        by_cases h3 : sk.kind = 3
        · have HS := Lib.hid (show wid (wid bx sk.cx sk.cy) sk.x sk.y = (l.take (k + 1)).foldl boxStep ⟨X, Y, X, Y⟩ by rw [HST2.out, boxStep, if_neg h4, if_pos h3])
          have h3' : (sk.kind == 3) = true := by simp [h3]
          clear h4 h3 HST2
          go_wp2_with (first
            | (go_at_call 25; refine (wider_any _ _ bx w.heap.size w _ (bal hbr _) (Nat.le_refl _) hbs).mono ?_; rintro e w4 ⟨rfl, hbx4, hbr4, hsz4, hk4⟩; have k0 : w4.cell? ⟨wo.heap.size, 0, none⟩ = some (.int .i64 sk.kind) := (hk4 _ 0 (by omega)).trans (new_cell _ 0); have k1 : w4.cell? ⟨wo.heap.size, 1, none⟩ = some (.int .i64 sk.x) := (hk4 _ 1 (by omega)).trans (new_cell _ 1); have k2 : w4.cell? ⟨wo.heap.size, 2, none⟩ = some (.int .i64 sk.y) := (hk4 _ 2 (by omega)).trans (new_cell _ 2); have k3 : w4.cell? ⟨wo.heap.size, 3, none⟩ = some (.int .i64 sk.cx) := (hk4 _ 3 (by omega)).trans (new_cell _ 3); have k4 : w4.cell? ⟨wo.heap.size, 4, none⟩ = some (.int .i64 sk.cy) := (hk4 _ 4 (by omega)).trans (new_cell _ 4))
            | (go_at_call 25; refine (wider_any _ _ (wid bx sk.cx sk.cy) w.heap.size w _ hbr4 (Nat.le_refl _) hbx4).mono ?_; rintro e w5 ⟨rfl, hbx5, hbr5, hsz5, hk5⟩))
          go_roundw
          case rel => exact ⟨k + 1, _, by omega, by go_num, hbr5, hbx5, HS⟩
          case measure => simp [intOf]; omega
        · have HS := Lib.hid (show wid bx sk.x sk.y = (l.take (k + 1)).foldl boxStep ⟨X, Y, X, Y⟩ by rw [HST2.out, boxStep, if_neg h4, if_neg h3])
          have h3' : (sk.kind == 3) = false := by simp [h3]
          clear h4 h3 HST2
          go_wp2_with (go_at_call 25; refine (wider_any _ _ bx w.heap.size w _ (bal hbr _) (Nat.le_refl _) hbs).mono ?_; rintro e w4 ⟨rfl, hbx4, hbr4, hsz4, hk4⟩; have k0 : w4.cell? ⟨wo.heap.size, 0, none⟩ = some (.int .i64 sk.kind) := (hk4 _ 0 (by omega)).trans (new_cell _ 0); have k1 : w4.cell? ⟨wo.heap.size, 1, none⟩ = some (.int .i64 sk.x) := (hk4 _ 1 (by omega)).trans (new_cell _ 1); have k2 : w4.cell? ⟨wo.heap.size, 2, none⟩ = some (.int .i64 sk.y) := (hk4 _ 2 (by omega)).trans (new_cell _ 2); have k3 : w4.cell? ⟨wo.heap.size, 3, none⟩ = some (.int .i64 sk.cx) := (hk4 _ 3 (by omega)).trans (new_cell _ 3); have k4 : w4.cell? ⟨wo.heap.size, 4, none⟩ = some (.int .i64 sk.cy) := (hk4 _ 4 (by omega)).trans (new_cell _ 4))
          go_roundw
          case rel => exact ⟨k + 1, _, by omega, by go_num, hbr4, hbx4, HS⟩
          case measure => simp [intOf]; omega
    · obtain rfl : k = n := by omega
      have hbl : bx = boxFrom l := by rw [HBF.out, hst.out, List.take_of_length_le (by omega)]
      have HBL := Lib.hid hbl
      have hx9 : BxAt (((((wo.setCell ⟨w.heap.size, 0, none⟩ (.int .i64 bx.x0)).setCell ⟨w.heap.size + 1, 0, none⟩ (.int .i64 bx.y0)).setCell ⟨w.heap.size + 1 + 1, 0, none⟩ (.int .i64 bx.x1)).setCell ⟨w.heap.size + 1 + 1 + 1, 0, none⟩ (.int .i64 bx.y1)).drew) w.heap.size ⟨bx.x0, bx.y0, bx.x1, bx.y1⟩ := hbx.set bx.x0 bx.y0 bx.x1 bx.y1
      have hb9 : Below w.heap.size w (((((wo.setCell ⟨w.heap.size, 0, none⟩ (.int .i64 bx.x0)).setCell ⟨w.heap.size + 1, 0, none⟩ (.int .i64 bx.y0)).setCell ⟨w.heap.size + 1 + 1, 0, none⟩ (.int .i64 bx.x1)).setCell ⟨w.heap.size + 1 + 1 + 1, 0, none⟩ (.int .i64 bx.y1)).drew) := bdrew (BxAt.bset hbr (Nat.le_refl _) (.int .i64 bx.x0) (.int .i64 bx.y0) (.int .i64 bx.x1) (.int .i64 bx.y1))
      have HX9 := Lib.hid hx9
      have HB9 := Lib.hid hb9
      obtain ⟨c0, c1, c2, c3, f0, f1, f2, f3, -⟩ := hbx
      clear hbl hx9 hb9 hst hb3 hx3
      go_wp2
      go_region
      have hb9 := HB9.out
      have hx9 := HX9.out
      generalize ((((wo.setCell ⟨w.heap.size, 0, none⟩ (.int .i64 bx.x0)).setCell ⟨w.heap.size + 1, 0, none⟩ (.int .i64 bx.y0)).setCell ⟨w.heap.size + 1 + 1, 0, none⟩ (.int .i64 bx.x1)).setCell ⟨w.heap.size + 1 + 1 + 1, 0, none⟩ (.int .i64 bx.y1)).drew = w9 at hb9 hx9 ⊢
      clear HX9 HB9 c0 c1 c2 c3 f0 f1 f2 f3
      go_wp2
      (try simp only [Exit.inBlock, Exit.then])
      refine bodyPost_ret (v := .tuple #[.int .i64 bx.x0, .int .i64 bx.y0, .int .i64 bx.x1, .int .i64 bx.y1, .bool true]) ?_ rfl ⟨by rw [HBL.out], hb9⟩
      exact results_box_ok rfl hx9 rfl rfl rfl rfl rfl

theorem Box_any (A : Option Addr) (n c : Nat) (l : List Sg) (p : Bx × Bool) (w : World) (hm : n ≤ 1000000) (h : Sl w 5 A n (sgs l)) (hp : boxL l = p) :
    Calls Try.prog 15 #[.slice A n c] w fun e w' => e = .returned (.tuple #[.int .i64 p.1.x0, .int .i64 p.1.y0, .int .i64 p.1.x1, .int .i64 p.1.y1, .bool p.2]) ∧ Below w.heap.size w w' := by
  subst hp
  by_cases hn : l = [] ∨ mayB l = false
  · have : boxL l = (⟨0, 0, 0, 0⟩, false) := by unfold boxL; rw [if_pos hn]
    rw [this]; exact Box_no A n c l w hm h hn
  · have : boxL l = (boxFrom l, true) := by unfold boxL; rw [if_neg hn]
    rw [this]
    exact Box_yes A n c l w hm h (fun e => hn (.inl e)) (by cases hb : mayB l <;> simp_all)

end Go.Proofs.Ytbbffeddlgfeiaa
