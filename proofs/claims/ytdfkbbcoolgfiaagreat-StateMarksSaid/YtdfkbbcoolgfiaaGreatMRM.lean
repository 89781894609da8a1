/- The reference's answers on one piece, one edge: IsCoord, coords, piece, IsEdge. -/
import Derived.Test.YtdfkbbcoolgfiaaGreatProg
import Derived.Test.YtdfkbbcoolgfiaaGreatAllP
import Derived.Test.YtdfkbbcoolgfiaaGreatMMay
namespace Go.Proofs.YtdfkbbcoolgfiaaGreat
open Go.RowKit

theorem IsCoord_any (v : Int) (w : World) : Calls Tryz.prog 99 #[.int .i64 v] w fun e w' => e = .returned (.bool (co v)) ∧ w = w' := by
  go_enter Tryz.func99, Tryz.ntmps99
  go_wp2
  all_goals (go_ret; refine ⟨ret_bool ?_, rfl⟩; go_light; simp [co]; try omega)

theorem coords_any (x y : Int) (w : World) : Calls Tryz.prog 152 #[.int .i64 x, .int .i64 y] w fun e w' => e = .returned (.bool (co x && co y)) ∧ w = w' := by
  go_enter Tryz.func152, Tryz.ntmps152
  go_wp2_with (go_at_call 99; refine (IsCoord_any _ _).mono ?_; rintro e w' ⟨rfl, rfl⟩)
  all_goals (go_ret; refine ⟨ret_bool ?_, rfl⟩; go_light; simp_all)

set_option maxHeartbeats 400000 in
theorem piece_any (k x y cx cy : Int) (w : World) :
    Calls Tryz.prog 116 #[.agg #[.int .i64 k, .int .i64 x, .int .i64 y, .int .i64 cx, .int .i64 cy]] w fun e w' => e = .returned (.bool (pieceB ⟨k, x, y, cx, cy⟩)) ∧ Below w.heap.size w w' := by
  go_enter Tryz.func116, Tryz.ntmps116
  go_wp2_with (go_at_call 152; refine (coords_any _ _ _).mono ?_; rintro e w' ⟨rfl, rfl⟩)
  all_goals (go_ret; refine ⟨ret_bool ?_, by first | exact bal (Below.refl _ _) _ | exact bal (bal (Below.refl _ _) _) _⟩; go_light; simp_all [pieceB])

set_option maxHeartbeats 400000 in
theorem IsEdge_any (x0 y0 cx cy x1 y1 : Int) (bent : Bool) (w : World) :
    Calls Tryz.prog 158 #[.agg #[.int .i64 x0, .int .i64 y0, .bool bent, .int .i64 cx, .int .i64 cy, .int .i64 x1, .int .i64 y1]] w
      fun e w' => e = .returned (.bool (edOK ⟨x0, y0, bent, cx, cy, x1, y1⟩)) ∧ Below w.heap.size w w' := by
  go_enter Tryz.func158, Tryz.ntmps158
  go_wp2_with (go_at_call 152; refine (coords_any _ _ _).mono ?_; rintro e w' ⟨rfl, rfl⟩)
  all_goals (go_ret; refine ⟨ret_bool ?_, bal (Below.refl _ _) _⟩; go_light; simp_all [edOK, nearB]; try (intro _; decide))

end Go.Proofs.YtdfkbbcoolgfiaaGreat

namespace Go.Proofs.YtdfkbbcoolgfiaaGreat
open Go.RowKit

set_option maxHeartbeats 1000000 in
theorem ref_May_any (A : Option Addr) (n c : Nat) (l : List Sg) (w : World) (hm : n ≤ 1000000) (h : Sl w 5 A n (sgs l)) :
    Calls Tryz.prog 62 #[.slice A n c] w fun e w' => e = .returned (.bool (mayB l)) ∧ Below w.heap.size w w' := by
  have hl := h.sglen
  by_cases hn : n ≤ 300
  · go_enter Tryz.func62, Tryz.ntmps62
    go_wp2
    go_loopw [3] (fun i wr => ∃ k : Nat, ∃ last : Int, k ≤ n ∧ i = .int .i64 k ∧ Below w.heap.size w wr ∧ Hid (mayFrom 0 l = mayFrom last (l.drop k)) ∧ Hid ((k = 0 → last = 0) ∧ (∀ hk : 0 < k, ∀ hk' : k - 1 < l.length, last = l[k - 1].kind) ∧ (0 < k → 1 ≤ last ∧ last ≤ 4))) (fun i _ => n - (intOf i).toNat)
    case atStart => exact ⟨0, 0, Nat.zero_le _, rfl, Below.refl _ _, by simp [Hid], fun _ => rfl, fun h0 => absurd h0 (by omega), fun h0 => absurd h0 (by omega)⟩
    case round =>
      obtain ⟨k, last, hk, rfl, hbw, hr, hq⟩ := hrel
      by_cases hlt : k < n
      · obtain ⟨b, off, rfl, hb, c0, c1, c2, c3, c4⟩ := (h.below hbw).sg k hlt (by omega)
        have hp : 0 < k → wr.cell? ⟨b, off + (k - 1) * 5, none⟩ = some (.int .i64 last) := fun h0 => by
          obtain ⟨b', off', e, _, d0, _⟩ := (h.below hbw).sg (k - 1) (by omega) (by omega)
          injection e with e; injection e with e1 e2; subst e1; subst e2
          rw [hq.out.2.1 h0 (by omega)]; exact d0
        have HP := Lib.hid hp
        clear hp
        obtain ⟨sk, hsk⟩ : ∃ s, s = l[k]'(by omega) := ⟨_, rfl⟩
        rw [← hsk] at c0 c1 c2 c3 c4
        have HS := Lib.hid hsk
        clear hsk
        have hs := mayFrom_step l k last (by omega) hr.out
        rw [← HS.out] at hs
        obtain ⟨h1, h2⟩ := hs
        have H1 := Lib.hid h1
        have H2 := Lib.hid h2
        clear h1 h2
        have hri : rightB sk last = true ↔ _ := rightB_iff
        have HRI := Lib.hid hri
        clear hri
        obtain ⟨q1, q2, q3⟩ := hq.out
        have Q := Lib.hid (And.intro q1 q3)
        clear q1 q2 q3
        rcases Bool.eq_false_or_eq_true (rightB ⟨sk.kind, sk.x, sk.y, sk.cx, sk.cy⟩ last) with hrb | hrb
        · obtain ⟨hpc0, hf⟩ := HRI.out.1 hrb
          have hpc : pieceB ⟨sk.kind, sk.x, sk.y, sk.cx, sk.cy⟩ = true := hpc0
          have HRB := Lib.hid hrb
          clear hrb hpc0
          rcases hf with ⟨hk1, hl1⟩ | ⟨hk1, hl0, hl4⟩
          · have hpc' : pieceB ⟨1, sk.x, sk.y, sk.cx, sk.cy⟩ = true := by rw [← hk1]; exact hpc
            by_cases hk0 : 0 < k
            · have hp := HP.out hk0
              rcases Bool.eq_false_or_eq_true (last == 4) with h4 | h4
              all_goals go_wp2_with (go_at_call 116; refine (piece_any _ _ _ _ _ _).mono ?_; rintro e w' ⟨rfl, hb1⟩; obtain ⟨hc1, hf1⟩ := bcell hb1)
              all_goals
                go_roundw
                case rel => exact ⟨_, sk.kind, Nat.succ_le_of_lt hlt, by first | rfl | go_num, btr hbw hb1, H1.out HRB.out, fun h0 => absurd h0 (by omega), fun _ _ => congrArg Sg.kind HS.out, fun _ => pieceB_kind hpc⟩
                case measure => simp [intOf]; omega
            · obtain rfl : k = 0 := by omega
              simp only [Nat.zero_mul, Nat.add_zero] at c0 c1 c2 c3 c4
              go_wp2_with (go_at_call 116; refine (piece_any _ _ _ _ _ _).mono ?_; rintro e w' ⟨rfl, hb1⟩; obtain ⟨hc1, hf1⟩ := bcell hb1)
              all_goals
                go_roundw
                case rel => exact ⟨_, sk.kind, Nat.succ_le_of_lt hlt, by first | rfl | go_num, btr hbw hb1, H1.out HRB.out, fun h0 => absurd h0 (by omega), fun _ _ => congrArg Sg.kind HS.out, fun _ => pieceB_kind hpc⟩
                case measure => simp [intOf]; omega
          · have hk0 : 0 < k := by
              rcases Nat.eq_zero_or_pos k with h0 | h0
              · exact absurd (Q.out.1 h0) hl0
              · exact h0
            have hp := HP.out hk0
            go_wp2_with (go_at_call 116; refine (piece_any _ _ _ _ _ _).mono ?_; rintro e w' ⟨rfl, hb1⟩; obtain ⟨hc1, hf1⟩ := bcell hb1)
            all_goals
              go_roundw
              case rel => exact ⟨_, sk.kind, Nat.succ_le_of_lt hlt, by first | rfl | go_num, btr hbw hb1, H1.out HRB.out, fun h0 => absurd h0 (by omega), fun _ _ => congrArg Sg.kind HS.out, fun _ => pieceB_kind hpc⟩
              case measure => simp [intOf]; omega
        · have HRB := Lib.hid hrb
          clear hrb
          rcases Bool.eq_false_or_eq_true (pieceB ⟨sk.kind, sk.x, sk.y, sk.cx, sk.cy⟩) with hpc | hpc
          · have hno : ¬ (sk.kind = 1 ∧ last ≠ 1 ∨ sk.kind ≠ 1 ∧ last ≠ 0 ∧ last ≠ 4) := fun hh => by
              have h1 := HRI.out.2 ⟨hpc, hh⟩
              have h2 : rightB sk last = false := HRB.out
              rw [h2] at h1; cases h1
            by_cases hk1 : sk.kind = 1
            · have hpc' : pieceB ⟨1, sk.x, sk.y, sk.cx, sk.cy⟩ = true := by rw [← hk1]; exact hpc
              have hl1 : last = 1 := by omega
              have hk0 : 0 < k := by
                rcases Nat.eq_zero_or_pos k with h0 | h0
                · have := Q.out.1 h0; omega
                · exact h0
              have hp := HP.out hk0
              clear hno
              go_wp2_with (go_at_call 116; refine (piece_any _ _ _ _ _ _).mono ?_; rintro e w' ⟨rfl, hb1⟩; obtain ⟨hc1, hf1⟩ := bcell hb1)
              all_goals (go_ret; exact ⟨ret_bool (by rw [mayB_bool l (by omega), H2.out HRB.out]), btr hbw hb1⟩)
            · by_cases hk0 : 0 < k
              · have hp := HP.out hk0
                have hl4 : last = 4 := by have := Q.out.2 hk0; omega
                clear hno
                go_wp2_with (go_at_call 116; refine (piece_any _ _ _ _ _ _).mono ?_; rintro e w' ⟨rfl, hb1⟩; obtain ⟨hc1, hf1⟩ := bcell hb1)
                all_goals (go_ret; exact ⟨ret_bool (by rw [mayB_bool l (by omega), H2.out HRB.out]), btr hbw hb1⟩)
              · obtain rfl : k = 0 := by omega
                simp only [Nat.zero_mul, Nat.add_zero] at c0 c1 c2 c3 c4
                clear hno
                go_wp2_with (go_at_call 116; refine (piece_any _ _ _ _ _ _).mono ?_; rintro e w' ⟨rfl, hb1⟩; obtain ⟨hc1, hf1⟩ := bcell hb1)
                all_goals (go_ret; exact ⟨ret_bool (by rw [mayB_bool l (by omega), H2.out HRB.out]), btr hbw hb1⟩)
          · by_cases hk0 : 0 < k
            · have hp := HP.out hk0
              go_wp2_with (go_at_call 116; refine (piece_any _ _ _ _ _ _).mono ?_; rintro e w' ⟨rfl, hb1⟩; obtain ⟨hc1, hf1⟩ := bcell hb1)
              all_goals (go_ret; exact ⟨ret_bool (by rw [mayB_bool l (by omega), H2.out HRB.out]), btr hbw hb1⟩)
            · obtain rfl : k = 0 := by omega
              simp only [Nat.zero_mul, Nat.add_zero] at c0 c1 c2 c3 c4
              go_wp2_with (go_at_call 116; refine (piece_any _ _ _ _ _ _).mono ?_; rintro e w' ⟨rfl, hb1⟩; obtain ⟨hc1, hf1⟩ := bcell hb1)
              all_goals (go_ret; exact ⟨ret_bool (by rw [mayB_bool l (by omega), H2.out HRB.out]), btr hbw hb1⟩)
      · go_wp2
        go_ret
        refine ⟨ret_bool ?_, hbw⟩
        rw [mayB_bool l (by omega), hr.out, List.drop_of_length_le (by omega)]
        rfl
  · go_enter Tryz.func62, Tryz.ntmps62
    go_wp2
    go_ret
    exact ⟨ret_bool (by simp [mayB]; omega), Below.refl _ _⟩

end Go.Proofs.YtdfkbbcoolgfiaaGreat
