/- way.part: the part of a contour from a place to a place. -/
import Derived.Test.YtacolepcpbhceaaDash4
namespace Go.Proofs.Ytacolepcpbhceaa
open Go.RowKit

theorem sgT2 : SlT Try.prog 24 36 5 40 := slT_of Try.underlying24 (by kernel_rfl) (by omega) (by omega)
theorem keep3 {W w' : World} {g o b i j : Nat} {u v0 v1 : Value} (hb : Below W.heap.size W w') (hg : g < W.heap.size) (hlt : b < W.heap.size)
    (h : W.cell? ⟨g, o, none⟩ = some u ∧ W.cell? ⟨b, i, none⟩ = some v0 ∧ W.cell? ⟨b, j, none⟩ = some v1) : w'.cell? ⟨g, o, none⟩ = some u ∧ w'.cell? ⟨b, i, none⟩ = some v0 ∧ w'.cell? ⟨b, j, none⟩ = some v1 := by
  obtain ⟨h', h0, h1⟩ := h
  exact ⟨(later_cell hb hg).trans h', (later_cell hb hlt).trans h0, (later_cell hb hlt).trans h1⟩
theorem inn_len (ps : List Ed) (k : Nat) (a b : Int) : (innW (ps.take k) a b).length ≤ k := by
  have h1 := innF_len (ps.take k) 0 a b
  rw [List.length_take] at h1
  unfold innW; omega

set_option maxRecDepth 100000 in
set_option maxHeartbeats 4000000 in
theorem part_any (Ap Ae : Option Addr) (n cp ce : Nat) (ps : List Ed) (a b : Int) (w : World) (h : WayIn w Ap Ae n ps) (h0 : 0 < n) (ha0 : 0 ≤ a) (ha1 : a ≤ sumL ps) (hb0 : 0 ≤ b) (hb1 : b ≤ sumL ps) :
    Calls Try.prog 30 #[.agg #[.slice Ap n cp, .slice Ae n ce], .int .i64 a, .int .i64 b] w
      fun e w' => ∃ (A : Option Addr) (c : Nat), e = .returned (.slice A (partW ps a b).length c) ∧ w'.ownsRow w.heap.size 36 5 (.slice A (partW ps a b).length c) (partW ps a b).length (sgs (partW ps a b)) ∧ Below w.heap.size w w' := by
  have hf := h.few
  have hl := h.len
  have HL := Lib.hid hl
  clear hl
  go_enter Try.func30, Try.ntmps30
  go_wp2_with fail
  have hB0 := bal (Below.refl w.heap.size w) (.cells #[.slice Ap n cp, .slice Ae n ce] 67)
  have c0 := new_cell (w := w) (t := 67) #[.slice Ap n cp, .slice Ae n ce] 0
  have c1 := new_cell (w := w) (t := 67) #[.slice Ap n cp, .slice Ae n ce] 1
  have hz0 : w.heap.size < (w.alloc (.cells #[.slice Ap n cp, .slice Ae n ce] 67)).heap.size := by simp
  refine (way_at_any Ap Ae n cp ce ps a _ (h.below hB0) h0 ha0 ha1).mono ?_; rintro e w1 ⟨rfl, hbA⟩
  have B1 := btr hB0 hbA
  have C0 : w1.cell? ⟨w.heap.size, 0, none⟩ = some (.slice Ap n cp) := (later_cell hbA hz0).trans c0
  have C1 : w1.cell? ⟨w.heap.size, 1, none⟩ = some (.slice Ae n ce) := (later_cell hbA hz0).trans c1
  have hz1 : w.heap.size < w1.heap.size := Nat.lt_of_lt_of_le hz0 hbA.size
  clear hB0 c0 c1 hz0 hbA
  obtain ⟨s0, hs0⟩ : ∃ s0 : Sg, s0 = ⟨1, (atW ps a).1, (atW ps a).2, 0, 0⟩ := ⟨_, rfl⟩
  have HS0 := Lib.hid hs0
  obtain ⟨x, hx⟩ : ∃ x, x = (atW ps a).1 := ⟨_, rfl⟩
  obtain ⟨y, hy⟩ : ∃ y, y = (atW ps a).2 := ⟨_, rfl⟩
  rw [← hx, ← hy] at hs0 HS0
  rw [← hx, ← hy]
  have HX := Lib.hid hx
  have HY := Lib.hid hy
  clear hs0 hx hy
  go_wp2
  have hown1 := own_new (w := w1) (t := 36) (n := 1) (s := 5) (base := w1.heap.size) (sgc ⟨1, x, y, 0, 0⟩) rfl rfl (Nat.le_refl _) (by omega)
  go_loopw [9, 25] (fun out i wr => ∃ (k m : Nat) (A : Option Addr) (c : Nat), k ≤ n ∧ out = .slice A m c ∧ i = .int .i64 (k : Int) ∧ Below w1.heap.size w1 wr ∧ wr.ownsRow w1.heap.size 36 5 (.slice A m c) m (sgs (⟨1, x, y, 0, 0⟩ :: innW (ps.take k) a b)) ∧ m ≤ k + 1) (fun _ i _ => n - (intOf i).toNat)
  case atStart => exact ⟨0, 1, _, 1, by omega, rfl, rfl, bal (Below.refl _ _) _, hown1, by omega⟩
  case round =>
    obtain ⟨wo, rfl⟩ : ∃ wo : World, wo = wr := ⟨_, rfl⟩
    obtain ⟨k, m, A, c, hk, rfl, rfl, hbr, hown, hmk⟩ := hrel
    have D0 := (later_cell hbr hz1).trans C0
    have D1 := (later_cell hbr hz1).trans C1
    have hzo := Nat.lt_of_lt_of_le hz1 hbr.size
    by_cases hlt : k < n
    · have hkl : k < ps.length := by rw [HL.out]; exact hlt
      obtain ⟨be, oe, rfl, hbe, e0⟩ := h.endAt k hlt
      obtain ⟨bp, op, rfl, hbp, -, -, -, -, -, p5, p6⟩ := h.p.ed k hlt hkl
      have hit := innW_take ps k hkl a b
      obtain ⟨ed, hed⟩ : ∃ ed, ed = ps[k] := ⟨_, rfl⟩
      obtain ⟨te, hte⟩ : ∃ te, te = sumL (ps.take (k + 1)) := ⟨_, rfl⟩
      rw [← hed] at p5 p6 hit
      rw [← hte] at e0 hit
      have hBo := btr B1 hbr
      replace e0 := (later_cell hBo hbe).trans e0
      have hS1 := And.intro C0 (And.intro ((later_cell B1 hbp).trans p5) ((later_cell B1 hbp).trans p6))
      have hzp := Nat.lt_of_lt_of_le hbp B1.size
      replace p5 := (later_cell hBo hbp).trans p5
      replace p6 := (later_cell hBo hbp).trans p6
      have hbp1 : bp < wo.heap.size := Nat.lt_of_lt_of_le hbp hBo.size
      have HIT := Lib.hid hit
      clear hed hte hit
      by_cases hin : a < te ∧ te < b
      · have hi1 := hin.1
        have hi2 := hin.2
        have HE : Hid (innE te ed a b = [⟨2, ed.x1, ed.y1, 0, 0⟩]) := by show _ = _; unfold innE; rw [if_pos hin]
        clear hin
        go_wp2
        have hS0 := And.intro D0 (And.intro p5 p6)
        go_region_held3 (fun w' => w'.cell? ⟨w.heap.size, 0, none⟩ = some (.slice (some ⟨bp, op, none⟩) n cp) ∧ w'.cell? ⟨bp, op + k * 7 + 5, none⟩ = some (.int .i64 ed.x1) ∧ w'.cell? ⟨bp, op + k * 7 + 6, none⟩ = some (.int .i64 ed.y1))
          (first | with_reducible exact hs5 | go_keep)
          ((refine step_app (by rfl) _ _ 24 (by rfl) w1.heap.size sgT2 (by rfl) (own_below hown (by repeat (first | with_reducible exact Below.refl _ _ | with_reducible refine bal ?_ _ | with_reducible refine bdrew ?_))) (sgc ⟨2, ed.x1, ed.y1, 0, 0⟩) (by rfl) (sl_newN _ (by simp) rfl) (oneCell_sgc _) (by omega) (by have := hbr.size; simp; omega) ?_; intro A5 c5 w5 hown5 hg5 hat5; have hb5 : Below w1.heap.size w1 w5 := grown_below (btr hbr (by repeat (first | with_reducible exact Below.refl _ _ | with_reducible refine bal ?_ _ | with_reducible refine bdrew ?_))) hg5 (own_below hown (by repeat (first | with_reducible exact Below.refl _ _ | with_reducible refine bal ?_ _ | with_reducible refine bdrew ?_))); have hs5 := keep3 (W := w1) hb5 hz1 hzp hS1))
        go_wp2
        have hnew : sgs (⟨1, x, y, 0, 0⟩ :: innW (ps.take (k + 1)) a b) = sgs (⟨1, x, y, 0, 0⟩ :: innW (ps.take k) a b) ++ sgc ⟨2, ed.x1, ed.y1, 0, 0⟩ := by rw [HIT.out, HE.out, ← List.cons_append, sgs_app, sgs_one]
        have HNEW := Lib.hid hnew
        clear hnew
        go_roundw
        case rel => exact ⟨k + 1, m + 1, A5, c5, by omega, rfl, by go_num, hb5, by rw [HNEW.out]; exact hown5, by omega⟩
        case measure => simp [intOf]; omega
      · have HE : Hid (innE te ed a b = []) := by show _ = _; unfold innE; rw [if_neg hin]
        have hnew : sgs (⟨1, x, y, 0, 0⟩ :: innW (ps.take (k + 1)) a b) = sgs (⟨1, x, y, 0, 0⟩ :: innW (ps.take k) a b) := by rw [HIT.out, HE.out, List.append_nil]
        have HNEW := Lib.hid hnew
        clear hnew
        by_cases hi1 : a < te
        · have hi2 : b ≤ te := by omega
          clear hin
          go_wp2
          go_roundw
          case rel => exact ⟨k + 1, m, A, c, by omega, rfl, by go_num, hbr, by rw [HNEW.out]; exact hown, by omega⟩
          case measure => simp [intOf]; omega
        · clear hin
          go_wp2
          go_roundw
          case rel => exact ⟨k + 1, m, A, c, by omega, rfl, by go_num, hbr, by rw [HNEW.out]; exact hown, by omega⟩
          case measure => simp [intOf]; omega
    · obtain rfl : k = n := by omega
      have htk : ps.take k = ps := List.take_of_length_le (by rw [HL.out]; omega)
      rw [htk] at hown
      have hwo := h.below (btr B1 hbr)
      clear htk
      go_wp2_with fail
      refine (way_at_any Ap Ae k cp ce ps b _ hwo h0 hb0 hb1).mono ?_; rintro e w2 ⟨rfl, hb2⟩
      have B2 := btr (btr B1 hbr) hb2
      have hb12 := btr hbr hb2
      have hown2 := own_below hown hb2
      obtain ⟨x2, hx2⟩ : ∃ x, x = (atW ps b).1 := ⟨_, rfl⟩
      obtain ⟨y2, hy2⟩ : ∃ y, y = (atW ps b).2 := ⟨_, rfl⟩
      rw [← hx2, ← hy2]
      have hpw : partW ps a b = (⟨1, x, y, 0, 0⟩ :: innW ps a b) ++ [⟨2, x2, y2, 0, 0⟩] := by unfold partW; rw [← HX.out, ← HY.out, ← hx2, ← hy2]; rfl
      have hml : m = (⟨1, x, y, 0, 0⟩ :: innW ps a b : List Sg).length := by have := (own_sl hown2).sglen; omega
      have hpl : (partW ps a b).length = m + 1 := by rw [hpw, List.length_append, ← hml]; rfl
      have HPW := Lib.hid hpw
      have HPL := Lib.hid hpl
      have hsz := hb12.size
      clear hx2 hy2 hpw hpl hml hbr hown hwo
      go_wp2_with (at_builtin; refine wpList_app rfl _ _ 24 rfl w1.heap.size sgT2 rfl (own_below hown2 (bal (Below.refl _ _) _)) (sgc ⟨2, x2, y2, 0, 0⟩) rfl (sl_newN _ (by simp) rfl) (oneCell_sgc _) (by omega) (by simp; omega) ?_; intro A5 c5 w5 hown5 hg5 hat5)
      go_ret
      refine ⟨A5, c5, by rw [HPL.out]; rfl, ?_, btr B1 (grown_below (bal hb12 _) hg5 (own_below hown2 (bal (Below.refl _ _) _)))⟩
      rw [HPL.out, HPW.out, sgs_app, sgs_one]
      exact own_mono hown5 B1.size
end Go.Proofs.Ytacolepcpbhceaa
