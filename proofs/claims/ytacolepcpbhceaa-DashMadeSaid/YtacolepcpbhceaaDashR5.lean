/- The reference's drawn. -/
import Derived.Test.YtacolepcpbhceaaDashR5P
import Derived.Test.YtacolepcpbhceaaDash5
namespace Go.Proofs.Ytacolepcpbhceaa
open Go.RowKit

def dIx1 : Oper := ⟨some 62, .indexAddr 41 (.tmp 60) (.tmp 61), 0, "ref.go:203", #[⟨2, .data⟩, ⟨3, .data⟩], none⟩
theorem dIx1_is : (⟨some 62, .indexAddr 41 (.tmp 60) (.tmp 61), 0, "ref.go:203", #[⟨2, .data⟩, ⟨3, .data⟩], none⟩ : Oper) = dIx1 := rfl
def dIx2 : Oper := ⟨some 68, .indexAddr 41 (.tmp 66) (.tmp 67), 0, "ref.go:203", #[⟨8, .data⟩, ⟨9, .data⟩], none⟩
theorem dIx2_is : (⟨some 68, .indexAddr 41 (.tmp 66) (.tmp 67), 0, "ref.go:203", #[⟨8, .data⟩, ⟨9, .data⟩], none⟩ : Oper) = dIx2 := rfl
attribute [local go_sem] dIx1 dIx2
set_option maxRecDepth 100000 in
set_option maxHeartbeats 4000000 in
theorem drawn_any (Ap Aa : Option Addr) (n cp ca : Nat) (ps : List Ed) (N a b : Int) (w : World) (h : RWayIn w Ap Aa n ps) (hj : Joined ps) (ha0 : 0 ≤ a) (ha1 : a < sumL ps) (hb0 : a ≤ b) (hb1 : b ≤ sumL ps) :
    Calls Try.prog 35 #[.agg #[.slice Ap n cp, .slice Aa n ca, .int .i64 N], .int .i64 a, .int .i64 b] w
      fun e w' => ∃ (A : Option Addr) (c : Nat), e = .returned (.slice A (partW ps a b).length c) ∧ w'.ownsRow w.heap.size 36 5 (.slice A (partW ps a b).length c) (partW ps a b).length (sgs (partW ps a b)) ∧ Below w.heap.size w w' := by
  have hf := h.few
  have hl := h.len
  have hn0 : 0 < n := by
    rcases Nat.eq_zero_or_pos n with h0 | h0
    · rw [h0] at hl; have := List.eq_nil_of_length_eq_zero hl; subst this; simp [sumL] at ha1; omega
    · exact h0
  have hps : ∀ e ∈ ps, 1 ≤ lenE e := fun e he => (lenE_pos (h.all e he).1.2 (h.all e he).2)
  have HL := Lib.hid hl
  have HJ := Lib.hid hj
  have HPS := Lib.hid hps
  have HA1 := Lib.hid ha1
  have HB1 := Lib.hid hb1
  clear hl hj hps ha1 hb1
  have hB0 := bal (Below.refl w.heap.size w) (.cells #[.slice Ap n cp, .slice Aa n ca, .int .i64 N] 74)
  have c0 := new_cell (w := w) (t := 74) #[.slice Ap n cp, .slice Aa n ca, .int .i64 N] 0
  have c1 := new_cell (w := w) (t := 74) #[.slice Ap n cp, .slice Aa n ca, .int .i64 N] 1
  have c2 := new_cell (w := w) (t := 74) #[.slice Ap n cp, .slice Aa n ca, .int .i64 N] 2
  have hz0 : w.heap.size < (w.alloc (.cells #[.slice Ap n cp, .slice Aa n ca, .int .i64 N] 74)).heap.size := by simp
  go_enter Try.func35, Try.ntmps35
  go_wp2
  go_loop [7] (fun i => ∃ k : Nat, k < n ∧ i = .int .i64 (k : Int) ∧ Hid (sumL (ps.take k) ≤ a)) (fun i => n - (intOf i).toNat)
  case atStart => exact ⟨0, hn0, rfl, by show sumL (ps.take 0) ≤ a; simp [sumL]; omega⟩
  case round =>
    obtain ⟨k, hk, rfl, hlo⟩ := hrel
    obtain ⟨b0, off, rfl, hb, -⟩ := h.begAt 0 hn0
    have hkl : k < ps.length := by rw [HL.out]; exact hk
    by_cases hgo : k + 1 < n ∧ sumL (ps.take (k + 1)) ≤ a
    · obtain ⟨hk1, hle⟩ := hgo
      obtain ⟨b1, off1, he1, hbb, q0⟩ := h.begAt (k + 1) hk1
      obtain ⟨rfl, rfl⟩ : b0 = b1 ∧ off = off1 := by simpa using he1
      replace q0 := (later_cell hB0 hb).trans q0
      obtain ⟨te, hte⟩ : ∃ te, te = sumL (ps.take (k + 1)) := ⟨_, rfl⟩
      rw [← hte] at q0 hle
      have HTE := Lib.hid hte
      clear hte he1 hbb
      go_wp2
      go_round
      case rel => exact ⟨k + 1, hk1, by go_num, by show sumL (ps.take (k + 1)) ≤ a; rw [← HTE.out]; exact hle⟩
      case measure => simp [intOf]; omega
    · have hup : a < sumL (ps.take (k + 1)) := by
        by_cases h1 : k + 1 < n
        · omega
        · rw [List.take_of_length_le (by rw [HL.out]; omega)]; exact HA1.out
      have HUP := Lib.hid hup
      clear hup
      have hat := fun W hW => rway_at_any Ap (some ⟨b0, off, none⟩) n cp ca k ps N a W hW hk hkl hlo.out (Int.le_of_lt HUP.out)
      rw [atW_on HJ.out HPS.out k a hkl hlo.out (Int.le_of_lt HUP.out)] at hat
      obtain ⟨x, hx⟩ : ∃ x, x = (atW ps a).1 := ⟨_, rfl⟩
      obtain ⟨y, hy⟩ : ∃ y, y = (atW ps a).2 := ⟨_, rfl⟩
      rw [← hx, ← hy] at hat
      have HX := Lib.hid hx
      have HY := Lib.hid hy
      have HAT := Lib.hid hat
      clear hx hy hat
      by_cases h1 : k + 1 < n
      · have h2 : a < sumL (ps.take (k + 1)) := HUP.out
        obtain ⟨b1, off1, he1, hbb, q0⟩ := h.begAt (k + 1) h1
        obtain ⟨rfl, rfl⟩ : b0 = b1 ∧ off = off1 := by simpa using he1
        replace q0 := (later_cell hB0 hb).trans q0
        obtain ⟨te, hte⟩ : ∃ te, te = sumL (ps.take (k + 1)) := ⟨_, rfl⟩
        rw [← hte] at q0 h2
        clear hte he1 hbb hgo
        go_wp2_with fail
        refine (HAT.out _ (h.below hB0)).mono ?_
        rintro e w1 ⟨rfl, hbA⟩
        have B1 := btr hB0 hbA
        have C0 : w1.cell? ⟨w.heap.size, 0, none⟩ = some (.slice Ap n cp) := (later_cell hbA hz0).trans c0
        have C1 : w1.cell? ⟨w.heap.size, 1, none⟩ = some (.slice (some ⟨b0, off, none⟩) n ca) := (later_cell hbA hz0).trans c1
        have C2 : w1.cell? ⟨w.heap.size, 2, none⟩ = some (.int .i64 N) := (later_cell hbA hz0).trans c2
        have hz1 : w.heap.size < w1.heap.size := Nat.lt_of_lt_of_le hz0 hbA.size
        clear hB0 c0 c1 c2 hz0 hbA HAT
        go_wp2
        have hown1 := own_new (w := w1) (t := 36) (n := 1) (s := 5) (base := w1.heap.size) (sgc ⟨1, x, y, 0, 0⟩) rfl rfl (Nat.le_refl _) (by omega)
        have hin0 : sgs (⟨1, x, y, 0, 0⟩ :: innW (ps.take k) a b) = sgc ⟨1, x, y, 0, 0⟩ := by rw [innW_before ps a b k (Nat.le_of_lt hkl) hlo.out]; exact sgs_one _
        have hownS : (w1.alloc (.cells #[.int .i64 1, .int .i64 x, .int .i64 y, .int .i64 0, .int .i64 0] 36)).ownsRow w1.heap.size 36 5 (.slice (some ⟨w1.heap.size, 0, none⟩) 1 1) 1 (sgs (⟨1, x, y, 0, 0⟩ :: innW (ps.take k) a b)) := by rw [hin0]; exact hown1
        have hlb : Hid (sumL (ps.take k) ≤ b) := Int.le_trans hlo.out hb0
        clear hin0
        go_loopw [7, 10] (fun i out wr => ∃ (k2 m : Nat) (A : Option Addr) (c : Nat), k ≤ k2 ∧ k2 < n ∧ i = .int .i64 (k2 : Int) ∧ out = .slice A m c ∧ Below w1.heap.size w1 wr ∧ wr.ownsRow w1.heap.size 36 5 (.slice A m c) m (sgs (⟨1, x, y, 0, 0⟩ :: innW (ps.take k2) a b)) ∧ m ≤ k2 + 1 ∧ Hid (sumL (ps.take k2) ≤ b) ∧ Hid (a < sumL (ps.take (k2 + 1)))) (fun i _ _ => n - (intOf i).toNat)
        case atStart => exact ⟨k, 1, _, 1, by omega, hk, rfl, rfl, bal (Below.refl _ _) _, hownS, by omega, hlb, HUP⟩
        case round =>
          clear hown1 hownS hlb HUP
          obtain ⟨wo, rfl⟩ : ∃ wo : World, wo = wr := ⟨_, rfl⟩
          obtain ⟨k2, m, A, c, hkk, hk2, rfl, rfl, hbr, hown, hmk, hlb, hua⟩ := hrel
          have D0 := (later_cell hbr hz1).trans C0
          have D1 := (later_cell hbr hz1).trans C1
          have D2 := (later_cell hbr hz1).trans C2
          have hzo := Nat.lt_of_lt_of_le hz1 hbr.size
          have hk2l : k2 < ps.length := by rw [HL.out]; exact hk2
          by_cases hgo : k2 + 1 < n ∧ sumL (ps.take (k2 + 1)) < b
          · first
            | (exfalso; omega)
            | (
              obtain ⟨hk1, hle⟩ := hgo
              obtain ⟨b1, off1, he1, hbb, q1⟩ := h.begAt (k2 + 1) hk1
              obtain ⟨rfl, rfl⟩ : b0 = b1 ∧ off = off1 := by simpa using he1
              have hk3l : k2 + 1 < ps.length := by rw [HL.out]; exact hk1
              obtain ⟨bp, op, rfl, hbp, p0, p1, -, -, -, -, -⟩ := h.p.ed (k2 + 1) hk1 hk3l
              have hBo := btr B1 hbr
              replace q1 := (later_cell hBo hb).trans q1
              have hit := innW_take ps k2 hk2l a b
              have hE : innE (sumL (ps.take (k2 + 1))) ps[k2] a b = [⟨2, ps[k2 + 1].x0, ps[k2 + 1].y0, 0, 0⟩] := by
                unfold innE; rw [if_pos ⟨hua.out, hle⟩, (HJ.out k2 hk3l).1, (HJ.out k2 hk3l).2]
              rw [hE] at hit
              obtain ⟨ed, hed⟩ : ∃ ed, ed = ps[k2 + 1] := ⟨_, rfl⟩
              have hnx : Hid (a < sumL (ps.take (k2 + 1 + 1))) := by
                have h1 := sumL_take ps (k2 + 1) hk3l
                have h2 := lenE_nonneg ps[k2 + 1]
                have h3 := hua.out
                show a < _
                omega
              obtain ⟨te, hte⟩ : ∃ te, te = sumL (ps.take (k2 + 1)) := ⟨_, rfl⟩
              rw [← hed] at p0 p1 hit
              rw [← hte] at q1 hle
              have hnew : sgs (⟨1, x, y, 0, 0⟩ :: innW (ps.take (k2 + 1)) a b) = sgs (⟨1, x, y, 0, 0⟩ :: innW (ps.take k2) a b) ++ sgc ⟨2, ed.x0, ed.y0, 0, 0⟩ := by rw [hit, ← List.cons_append, sgs_app, sgs_one]
              have hlb2 : Hid (sumL (ps.take (k2 + 1)) ≤ b) := by show _ ≤ b; rw [← hte]; exact Int.le_of_lt hle
              have HNEW := Lib.hid hnew
              have hS1 := And.intro C0 (And.intro ((later_cell B1 hbp).trans p0) ((later_cell B1 hbp).trans p1))
              have hzp := Nat.lt_of_lt_of_le hbp B1.size
              replace p0 := (later_cell hBo hbp).trans p0
              replace p1 := (later_cell hBo hbp).trans p1
              have hbp1 : bp < wo.heap.size := Nat.lt_of_lt_of_le hbp hBo.size
              have hS0 := And.intro D0 (And.intro p0 p1)
              clear hed hte hit hE hnew he1 hbb hua hlb
              go_wp2_with fail
              rw [dIx1_is, dIx2_is]
              go_region_held3 (fun w' => w'.cell? ⟨w.heap.size, 0, none⟩ = some (.slice (some ⟨bp, op, none⟩) n cp) ∧ w'.cell? ⟨bp, op + (k2 + 1) * 7, none⟩ = some (.int .i64 ed.x0) ∧ w'.cell? ⟨bp, op + (k2 + 1) * 7 + 1, none⟩ = some (.int .i64 ed.y0))
                (first | with_reducible exact hs5 | go_keep)
                ((refine step_app (by rfl) _ _ 24 (by rfl) w1.heap.size sgT2 (by rfl) (own_below hown (by repeat (first | with_reducible exact Below.refl _ _ | with_reducible refine bal ?_ _ | with_reducible refine bdrew ?_))) (sgc ⟨2, ed.x0, ed.y0, 0, 0⟩) (by rfl) (sl_newN _ (by simp) rfl) (oneCell_sgc _) (by omega) (by have := hbr.size; simp; omega) ?_; intro A5 c5 w5 hown5 hg5 hat5; have hb5 : Below w1.heap.size w1 w5 := grown_below (btr hbr (by repeat (first | with_reducible exact Below.refl _ _ | with_reducible refine bal ?_ _ | with_reducible refine bdrew ?_))) hg5 (own_below hown (by repeat (first | with_reducible exact Below.refl _ _ | with_reducible refine bal ?_ _ | with_reducible refine bdrew ?_))); have hs5 := keep3 (W := w1) hb5 hz1 hzp hS1))
              all_goals
                go_wp2
                go_roundw
                case rel => exact ⟨k2 + 1, m + 1, A5, c5, by omega, hk1, by go_num, rfl, hb5, by rw [HNEW.out]; exact hown5, by omega, hlb2, hnx⟩
                case measure => simp [intOf]; omega)
          · have hub : b ≤ sumL (ps.take (k2 + 1)) := by
              by_cases h1 : k2 + 1 < n
              · omega
              · rw [List.take_of_length_le (by rw [HL.out]; omega)]; exact HB1.out
            have hbt := fun W hW => rway_at_any Ap (some ⟨b0, off, none⟩) n cp ca k2 ps N b W hW hk2 hk2l hlb.out hub
            rw [atW_on HJ.out HPS.out k2 b hk2l hlb.out hub] at hbt
            obtain ⟨x2, hx2⟩ : ∃ x, x = (atW ps b).1 := ⟨_, rfl⟩
            obtain ⟨y2, hy2⟩ : ∃ y, y = (atW ps b).2 := ⟨_, rfl⟩
            rw [← hx2, ← hy2] at hbt
            have hall := innW_from ps k2 a b (Or.inl hub)
            rw [← hall] at hown
            have hwo := h.below (btr B1 hbr)
            have hpw : partW ps a b = (⟨1, x, y, 0, 0⟩ :: innW ps a b) ++ [⟨2, x2, y2, 0, 0⟩] := by unfold partW; rw [← HX.out, ← HY.out, ← hx2, ← hy2]; rfl
            have hml : m = (⟨1, x, y, 0, 0⟩ :: innW ps a b : List Sg).length := by have := (own_sl hown).sglen; omega
            have hpl : (partW ps a b).length = m + 1 := by rw [hpw, List.length_append, ← hml]; rfl
            have HPW := Lib.hid hpw
            have HPL := Lib.hid hpl
            have HBT := Lib.hid hbt
            clear hbt hx2 hy2 hall hpw hml hpl hlb hua
            by_cases h1 : k2 + 1 < n
            · first
              | (exfalso; omega)
              | (
                obtain ⟨b1, off1, he1, hbb, q1⟩ := h.begAt (k2 + 1) h1
                obtain ⟨rfl, rfl⟩ : b0 = b1 ∧ off = off1 := by simpa using he1
                replace q1 := (later_cell (btr B1 hbr) hb).trans q1
                obtain ⟨te, hte⟩ : ∃ te, te = sumL (ps.take (k2 + 1)) := ⟨_, rfl⟩
                rw [← hte] at q1 hub
                clear hte he1 hbb hgo
                go_wp2_with fail
                refine (HBT.out _ hwo).mono ?_
                rintro e w2 ⟨rfl, hb2⟩
                have B2 := btr (btr B1 hbr) hb2
                have hb12 := btr hbr hb2
                have hown2 := own_below hown hb2
                have hsz := hb12.size
                clear hbr hown hwo HBT
                go_wp2_with (at_builtin; refine wpList_app rfl _ _ 24 rfl w1.heap.size sgT2 rfl (own_below hown2 (bal (Below.refl _ _) _)) (sgc ⟨2, x2, y2, 0, 0⟩) rfl (sl_newN _ (by simp) rfl) (oneCell_sgc _) (by omega) (by simp; omega) ?_; intro A5 c5 w5 hown5 hg5 hat5)
                go_ret
                refine ⟨A5, c5, by rw [HPL.out]; rfl, ?_, btr B1 (grown_below (bal hb12 _) hg5 (own_below hown2 (bal (Below.refl _ _) _)))⟩
                rw [HPL.out, HPW.out, sgs_app, sgs_one]
                exact own_mono hown5 B1.size)
            · clear hgo hub
              go_wp2_with fail
              refine (HBT.out _ hwo).mono ?_
              rintro e w2 ⟨rfl, hb2⟩
              have B2 := btr (btr B1 hbr) hb2
              have hb12 := btr hbr hb2
              have hown2 := own_below hown hb2
              have hsz := hb12.size
              clear hbr hown hwo HBT
              go_wp2_with (at_builtin; refine wpList_app rfl _ _ 24 rfl w1.heap.size sgT2 rfl (own_below hown2 (bal (Below.refl _ _) _)) (sgc ⟨2, x2, y2, 0, 0⟩) rfl (sl_newN _ (by simp) rfl) (oneCell_sgc _) (by omega) (by simp; omega) ?_; intro A5 c5 w5 hown5 hg5 hat5)
              go_ret
              refine ⟨A5, c5, by rw [HPL.out]; rfl, ?_, btr B1 (grown_below (bal hb12 _) hg5 (own_below hown2 (bal (Below.refl _ _) _)))⟩
              rw [HPL.out, HPW.out, sgs_app, sgs_one]
              exact own_mono hown5 B1.size
      · clear hgo
        go_wp2_with fail
        refine (HAT.out _ (h.below hB0)).mono ?_
        rintro e w1 ⟨rfl, hbA⟩
        have B1 := btr hB0 hbA
        have C0 : w1.cell? ⟨w.heap.size, 0, none⟩ = some (.slice Ap n cp) := (later_cell hbA hz0).trans c0
        have C1 : w1.cell? ⟨w.heap.size, 1, none⟩ = some (.slice (some ⟨b0, off, none⟩) n ca) := (later_cell hbA hz0).trans c1
        have C2 : w1.cell? ⟨w.heap.size, 2, none⟩ = some (.int .i64 N) := (later_cell hbA hz0).trans c2
        have hz1 : w.heap.size < w1.heap.size := Nat.lt_of_lt_of_le hz0 hbA.size
        clear hB0 c0 c1 c2 hz0 hbA HAT
        go_wp2
        have hown1 := own_new (w := w1) (t := 36) (n := 1) (s := 5) (base := w1.heap.size) (sgc ⟨1, x, y, 0, 0⟩) rfl rfl (Nat.le_refl _) (by omega)
        have hin0 : sgs (⟨1, x, y, 0, 0⟩ :: innW (ps.take k) a b) = sgc ⟨1, x, y, 0, 0⟩ := by rw [innW_before ps a b k (Nat.le_of_lt hkl) hlo.out]; exact sgs_one _
        have hownS : (w1.alloc (.cells #[.int .i64 1, .int .i64 x, .int .i64 y, .int .i64 0, .int .i64 0] 36)).ownsRow w1.heap.size 36 5 (.slice (some ⟨w1.heap.size, 0, none⟩) 1 1) 1 (sgs (⟨1, x, y, 0, 0⟩ :: innW (ps.take k) a b)) := by rw [hin0]; exact hown1
        have hlb : Hid (sumL (ps.take k) ≤ b) := Int.le_trans hlo.out hb0
        clear hin0
        go_loopw [7, 10] (fun i out wr => ∃ (k2 m : Nat) (A : Option Addr) (c : Nat), k ≤ k2 ∧ k2 < n ∧ i = .int .i64 (k2 : Int) ∧ out = .slice A m c ∧ Below w1.heap.size w1 wr ∧ wr.ownsRow w1.heap.size 36 5 (.slice A m c) m (sgs (⟨1, x, y, 0, 0⟩ :: innW (ps.take k2) a b)) ∧ m ≤ k2 + 1 ∧ Hid (sumL (ps.take k2) ≤ b) ∧ Hid (a < sumL (ps.take (k2 + 1)))) (fun i _ _ => n - (intOf i).toNat)
        case atStart => exact ⟨k, 1, _, 1, by omega, hk, rfl, rfl, bal (Below.refl _ _) _, hownS, by omega, hlb, HUP⟩
        case round =>
          clear hown1 hownS hlb HUP
          obtain ⟨wo, rfl⟩ : ∃ wo : World, wo = wr := ⟨_, rfl⟩
          obtain ⟨k2, m, A, c, hkk, hk2, rfl, rfl, hbr, hown, hmk, hlb, hua⟩ := hrel
          have D0 := (later_cell hbr hz1).trans C0
          have D1 := (later_cell hbr hz1).trans C1
          have D2 := (later_cell hbr hz1).trans C2
          have hzo := Nat.lt_of_lt_of_le hz1 hbr.size
          have hk2l : k2 < ps.length := by rw [HL.out]; exact hk2
          by_cases hgo : k2 + 1 < n ∧ sumL (ps.take (k2 + 1)) < b
          · first
            | (exfalso; omega)
            | (
              obtain ⟨hk1, hle⟩ := hgo
              obtain ⟨b1, off1, he1, hbb, q1⟩ := h.begAt (k2 + 1) hk1
              obtain ⟨rfl, rfl⟩ : b0 = b1 ∧ off = off1 := by simpa using he1
              have hk3l : k2 + 1 < ps.length := by rw [HL.out]; exact hk1
              obtain ⟨bp, op, rfl, hbp, p0, p1, -, -, -, -, -⟩ := h.p.ed (k2 + 1) hk1 hk3l
              have hBo := btr B1 hbr
              replace q1 := (later_cell hBo hb).trans q1
              have hit := innW_take ps k2 hk2l a b
              have hE : innE (sumL (ps.take (k2 + 1))) ps[k2] a b = [⟨2, ps[k2 + 1].x0, ps[k2 + 1].y0, 0, 0⟩] := by
                unfold innE; rw [if_pos ⟨hua.out, hle⟩, (HJ.out k2 hk3l).1, (HJ.out k2 hk3l).2]
              rw [hE] at hit
              obtain ⟨ed, hed⟩ : ∃ ed, ed = ps[k2 + 1] := ⟨_, rfl⟩
              have hnx : Hid (a < sumL (ps.take (k2 + 1 + 1))) := by
                have h1 := sumL_take ps (k2 + 1) hk3l
                have h2 := lenE_nonneg ps[k2 + 1]
                have h3 := hua.out
                show a < _
                omega
              obtain ⟨te, hte⟩ : ∃ te, te = sumL (ps.take (k2 + 1)) := ⟨_, rfl⟩
              rw [← hed] at p0 p1 hit
              rw [← hte] at q1 hle
              have hnew : sgs (⟨1, x, y, 0, 0⟩ :: innW (ps.take (k2 + 1)) a b) = sgs (⟨1, x, y, 0, 0⟩ :: innW (ps.take k2) a b) ++ sgc ⟨2, ed.x0, ed.y0, 0, 0⟩ := by rw [hit, ← List.cons_append, sgs_app, sgs_one]
              have hlb2 : Hid (sumL (ps.take (k2 + 1)) ≤ b) := by show _ ≤ b; rw [← hte]; exact Int.le_of_lt hle
              have HNEW := Lib.hid hnew
              have hS1 := And.intro C0 (And.intro ((later_cell B1 hbp).trans p0) ((later_cell B1 hbp).trans p1))
              have hzp := Nat.lt_of_lt_of_le hbp B1.size
              replace p0 := (later_cell hBo hbp).trans p0
              replace p1 := (later_cell hBo hbp).trans p1
              have hbp1 : bp < wo.heap.size := Nat.lt_of_lt_of_le hbp hBo.size
              have hS0 := And.intro D0 (And.intro p0 p1)
              clear hed hte hit hE hnew he1 hbb hua hlb
              go_wp2_with fail
              rw [dIx1_is, dIx2_is]
              go_region_held3 (fun w' => w'.cell? ⟨w.heap.size, 0, none⟩ = some (.slice (some ⟨bp, op, none⟩) n cp) ∧ w'.cell? ⟨bp, op + (k2 + 1) * 7, none⟩ = some (.int .i64 ed.x0) ∧ w'.cell? ⟨bp, op + (k2 + 1) * 7 + 1, none⟩ = some (.int .i64 ed.y0))
                (first | with_reducible exact hs5 | go_keep)
                ((refine step_app (by rfl) _ _ 24 (by rfl) w1.heap.size sgT2 (by rfl) (own_below hown (by repeat (first | with_reducible exact Below.refl _ _ | with_reducible refine bal ?_ _ | with_reducible refine bdrew ?_))) (sgc ⟨2, ed.x0, ed.y0, 0, 0⟩) (by rfl) (sl_newN _ (by simp) rfl) (oneCell_sgc _) (by omega) (by have := hbr.size; simp; omega) ?_; intro A5 c5 w5 hown5 hg5 hat5; have hb5 : Below w1.heap.size w1 w5 := grown_below (btr hbr (by repeat (first | with_reducible exact Below.refl _ _ | with_reducible refine bal ?_ _ | with_reducible refine bdrew ?_))) hg5 (own_below hown (by repeat (first | with_reducible exact Below.refl _ _ | with_reducible refine bal ?_ _ | with_reducible refine bdrew ?_))); have hs5 := keep3 (W := w1) hb5 hz1 hzp hS1))
              all_goals
                go_wp2
                go_roundw
                case rel => exact ⟨k2 + 1, m + 1, A5, c5, by omega, hk1, by go_num, rfl, hb5, by rw [HNEW.out]; exact hown5, by omega, hlb2, hnx⟩
                case measure => simp [intOf]; omega)
          · have hub : b ≤ sumL (ps.take (k2 + 1)) := by
              by_cases h1 : k2 + 1 < n
              · omega
              · rw [List.take_of_length_le (by rw [HL.out]; omega)]; exact HB1.out
            have hbt := fun W hW => rway_at_any Ap (some ⟨b0, off, none⟩) n cp ca k2 ps N b W hW hk2 hk2l hlb.out hub
            rw [atW_on HJ.out HPS.out k2 b hk2l hlb.out hub] at hbt
            obtain ⟨x2, hx2⟩ : ∃ x, x = (atW ps b).1 := ⟨_, rfl⟩
            obtain ⟨y2, hy2⟩ : ∃ y, y = (atW ps b).2 := ⟨_, rfl⟩
            rw [← hx2, ← hy2] at hbt
            have hall := innW_from ps k2 a b (Or.inl hub)
            rw [← hall] at hown
            have hwo := h.below (btr B1 hbr)
            have hpw : partW ps a b = (⟨1, x, y, 0, 0⟩ :: innW ps a b) ++ [⟨2, x2, y2, 0, 0⟩] := by unfold partW; rw [← HX.out, ← HY.out, ← hx2, ← hy2]; rfl
            have hml : m = (⟨1, x, y, 0, 0⟩ :: innW ps a b : List Sg).length := by have := (own_sl hown).sglen; omega
            have hpl : (partW ps a b).length = m + 1 := by rw [hpw, List.length_append, ← hml]; rfl
            have HPW := Lib.hid hpw
            have HPL := Lib.hid hpl
            have HBT := Lib.hid hbt
            clear hbt hx2 hy2 hall hpw hml hpl hlb hua
            by_cases h1 : k2 + 1 < n
            · first
              | (exfalso; omega)
              | (
                obtain ⟨b1, off1, he1, hbb, q1⟩ := h.begAt (k2 + 1) h1
                obtain ⟨rfl, rfl⟩ : b0 = b1 ∧ off = off1 := by simpa using he1
                replace q1 := (later_cell (btr B1 hbr) hb).trans q1
                obtain ⟨te, hte⟩ : ∃ te, te = sumL (ps.take (k2 + 1)) := ⟨_, rfl⟩
                rw [← hte] at q1 hub
                clear hte he1 hbb hgo
                go_wp2_with fail
                refine (HBT.out _ hwo).mono ?_
                rintro e w2 ⟨rfl, hb2⟩
                have B2 := btr (btr B1 hbr) hb2
                have hb12 := btr hbr hb2
                have hown2 := own_below hown hb2
                have hsz := hb12.size
                clear hbr hown hwo HBT
                go_wp2_with (at_builtin; refine wpList_app rfl _ _ 24 rfl w1.heap.size sgT2 rfl (own_below hown2 (bal (Below.refl _ _) _)) (sgc ⟨2, x2, y2, 0, 0⟩) rfl (sl_newN _ (by simp) rfl) (oneCell_sgc _) (by omega) (by simp; omega) ?_; intro A5 c5 w5 hown5 hg5 hat5)
                go_ret
                refine ⟨A5, c5, by rw [HPL.out]; rfl, ?_, btr B1 (grown_below (bal hb12 _) hg5 (own_below hown2 (bal (Below.refl _ _) _)))⟩
                rw [HPL.out, HPW.out, sgs_app, sgs_one]
                exact own_mono hown5 B1.size)
            · clear hgo hub
              go_wp2_with fail
              refine (HBT.out _ hwo).mono ?_
              rintro e w2 ⟨rfl, hb2⟩
              have B2 := btr (btr B1 hbr) hb2
              have hb12 := btr hbr hb2
              have hown2 := own_below hown hb2
              have hsz := hb12.size
              clear hbr hown hwo HBT
              go_wp2_with (at_builtin; refine wpList_app rfl _ _ 24 rfl w1.heap.size sgT2 rfl (own_below hown2 (bal (Below.refl _ _) _)) (sgc ⟨2, x2, y2, 0, 0⟩) rfl (sl_newN _ (by simp) rfl) (oneCell_sgc _) (by omega) (by simp; omega) ?_; intro A5 c5 w5 hown5 hg5 hat5)
              go_ret
              refine ⟨A5, c5, by rw [HPL.out]; rfl, ?_, btr B1 (grown_below (bal hb12 _) hg5 (own_below hown2 (bal (Below.refl _ _) _)))⟩
              rw [HPL.out, HPW.out, sgs_app, sgs_one]
              exact own_mono hown5 B1.size

end Go.Proofs.Ytacolepcpbhceaa
