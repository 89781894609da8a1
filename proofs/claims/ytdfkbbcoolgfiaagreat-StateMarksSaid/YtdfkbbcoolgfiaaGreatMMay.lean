/- path.near and bow.near: every number is a coordinate. -/
import Derived.Test.YtdfkbbcoolgfiaaGreatProg
import Derived.Test.YtdfkbbcoolgfiaaGreatAllP
import Derived.Deep.QuietTactic
import Derived.BigQuiet
import Derived.Deep.Light
namespace Go.Proofs.YtdfkbbcoolgfiaaGreat
open Go.RowKit

theorem nearB_snoc (l : List Int) (a : Int) : nearB (l ++ [a]) = (nearB l && co a) := by simp [nearB]
theorem nearB_take (zs : List Int) (k : Nat) (h : k < zs.length) : nearB (zs.take (k + 1)) = (nearB (zs.take k) && co zs[k]) := by
  rw [List.take_succ_eq_append_getElem h, nearB_snoc]
theorem nearB_out (zs : List Int) (k : Nat) (h : k < zs.length) (hc : co zs[k] = false) : nearB zs = false := by
  rw [nearB, List.all_eq_false]
  exact ⟨zs[k], List.getElem_mem h, by simp [hc]⟩

set_option maxHeartbeats 400000 in
theorem path_near_any (A : Option Addr) (n c : Nat) (zs : List Int) (w : World) (hm : n ≤ 1000000) (h : Sl w 1 A n (ints zs)) :
    Calls Tryz.prog 110 #[.slice A n c] w fun e w' => e = .returned (.bool (nearB zs)) ∧ w = w' := by
  have hl : zs.length = n := by have := h.1; simpa [ints] using this
  go_enter Tryz.func110, Tryz.ntmps110
  go_wp2
  go_loop [7] (fun i => ∃ k : Nat, k ≤ n ∧ i = .int .i64 k ∧ Hid (nearB (zs.take k) = true)) (fun i => n - (intOf i).toNat)
  case atStart => exact ⟨0, Nat.zero_le _, rfl, by simp [nearB, Hid]⟩
  case round =>
    obtain ⟨k, hk, rfl, hn⟩ := hrel
    by_cases hlt : k < n
    · obtain ⟨b, off, rfl, hb, hc⟩ := h.2 (by omega)
      obtain ⟨z, hz⟩ : ∃ z, z = zs[k]'(by omega) := ⟨_, rfl⟩
      have hx : w.cell? ⟨b, off + k, none⟩ = some (.int .i64 z) := hc k _ (by simp [ints, hz, List.getElem?_eq_getElem (show k < zs.length by omega)])
      have HZ := Lib.hid hz
      clear hc hz
      go_wp2
      all_goals first
        | (go_ret; refine ⟨ret_bool ?_, rfl⟩; rw [nearB_out zs k (by omega) (by rw [← HZ.out]; exact co_no (by omega))])
        | (go_round
           case rel => exact ⟨k + 1, by omega, by go_num, by show nearB _ = true; rw [nearB_take zs k (by omega), hn.out, ← HZ.out, co_iff.2 (by omega)]; rfl⟩
           case measure => simp [intOf]; omega)
    · go_wp2
      go_ret
      refine ⟨ret_bool ?_, rfl⟩
      have := hn.out
      rw [List.take_of_length_le (by omega)] at this
      exact this.symm
set_option maxHeartbeats 400000 in
theorem bow_near_any (A : Option Addr) (n c : Nat) (zs : List Int) (w : World) (hm : n ≤ 1000000) (h : Sl w 1 A n (ints zs)) :
    Calls Tryz.prog 172 #[.slice A n c] w fun e w' => e = .returned (.bool (nearB zs)) ∧ w = w' := by
  have hl : zs.length = n := by have := h.1; simpa [ints] using this
  go_enter Tryz.func172, Tryz.ntmps172
  go_wp2
  go_loop [7] (fun i => ∃ k : Nat, k ≤ n ∧ i = .int .i64 k ∧ Hid (nearB (zs.take k) = true)) (fun i => n - (intOf i).toNat)
  case atStart => exact ⟨0, Nat.zero_le _, rfl, by simp [nearB, Hid]⟩
  case round =>
    obtain ⟨k, hk, rfl, hn⟩ := hrel
    by_cases hlt : k < n
    · obtain ⟨b, off, rfl, hb, hc⟩ := h.2 (by omega)
      obtain ⟨z, hz⟩ : ∃ z, z = zs[k]'(by omega) := ⟨_, rfl⟩
      have hx : w.cell? ⟨b, off + k, none⟩ = some (.int .i64 z) := hc k _ (by simp [ints, hz, List.getElem?_eq_getElem (show k < zs.length by omega)])
      have HZ := Lib.hid hz
      clear hc hz
      go_wp2
      all_goals first
        | (go_ret; refine ⟨ret_bool ?_, rfl⟩; rw [nearB_out zs k (by omega) (by rw [← HZ.out]; exact co_no (by omega))])
        | (go_round
           case rel => exact ⟨k + 1, by omega, by go_num, by show nearB _ = true; rw [nearB_take zs k (by omega), hn.out, ← HZ.out, co_iff.2 (by omega)]; rfl⟩
           case measure => simp [intOf]; omega)
    · go_wp2
      go_ret
      refine ⟨ret_bool ?_, rfl⟩
      have := hn.out
      rw [List.take_of_length_le (by omega)] at this
      exact this.symm
end Go.Proofs.YtdfkbbcoolgfiaaGreat

namespace Go.Proofs.YtdfkbbcoolgfiaaGreat
open Go.RowKit

set_option maxHeartbeats 400000 in
theorem bow_May_any (x0 y0 cx cy x1 y1 : Int) (bent : Bool) (w : World) :
    Calls Tryz.prog 153 #[.agg #[.int .i64 x0, .int .i64 y0, .bool bent, .int .i64 cx, .int .i64 cy, .int .i64 x1, .int .i64 y1]] w
      fun e w' => e = .returned (.bool (edOK ⟨x0, y0, bent, cx, cy, x1, y1⟩)) ∧ Below w.heap.size w w' := by
  go_enter Tryz.func153, Tryz.ntmps153
  go_wp2_with (go_at_call 172; refine (bow_near_any _ _ _ [x0, y0, cx, cy, x1, y1] _ (by omega) ?_).mono ?_; rotate_left; rintro e w' ⟨rfl, rfl⟩)
  all_goals first
    | (go_ret; refine ⟨ret_bool ?_, bal (bal (Below.refl _ _) _) _⟩; go_light; simp_all [edOK])
    | (exact sl_new (ints [x0, y0, cx, cy, x1, y1]) (by simp) rfl)

set_option maxHeartbeats 400000 in
theorem path_right_any (k x y cx cy last : Int) (w : World) :
    Calls Tryz.prog 113 #[.agg #[.int .i64 k, .int .i64 x, .int .i64 y, .int .i64 cx, .int .i64 cy], .int .i64 last] w
      fun e w' => e = .returned (.bool (rightB ⟨k, x, y, cx, cy⟩ last)) ∧ Below w.heap.size w w' := by
  go_enter Tryz.func113, Tryz.ntmps113
  go_wp2_with (go_at_call 110; refine (path_near_any _ _ _ [x, y, cx, cy] _ (by omega) ?_).mono ?_; rotate_left; rintro e w' ⟨rfl, rfl⟩)
  all_goals first
    | (go_ret; refine ⟨ret_bool ?_, bal (bal (Below.refl _ _) _) _⟩; go_light; simp_all [rightB])
    | (exact sl_new (ints [x, y, cx, cy]) (by simp) rfl)
  all_goals (intro hz; subst_vars; assumption)

end Go.Proofs.YtdfkbbcoolgfiaaGreat

namespace Go.Proofs.YtdfkbbcoolgfiaaGreat
open Go.RowKit

theorem mayB_bool (l : List Sg) (h : l.length ≤ 300) : mayB l = mayFrom 0 l := by simp [mayB, h]
theorem mayFrom_step (l : List Sg) (k : Nat) (last : Int) (h : k < l.length) (hm : mayFrom 0 l = mayFrom last (l.drop k)) :
    (rightB l[k] last = true → Hid (mayFrom 0 l = mayFrom l[k].kind (l.drop (k + 1)))) ∧ (rightB l[k] last = false → mayFrom 0 l = false) := by
  rw [List.drop_eq_getElem_cons h] at hm
  simp only [mayFrom] at hm
  exact ⟨fun hr => by rw [hr] at hm; simpa [Hid] using hm, fun hr => by rw [hr] at hm; simpa using hm⟩

set_option maxHeartbeats 400000 in
theorem path_May_any (A : Option Addr) (n c : Nat) (l : List Sg) (w : World) (hm : n ≤ 1000000) (h : Sl w 5 A n (sgs l)) :
    Calls Tryz.prog 57 #[.slice A n c] w fun e w' => e = .returned (.bool (mayB l)) ∧ Below w.heap.size w w' := by
  have hl := h.sglen
  by_cases hn : n ≤ 300
  · go_enter Tryz.func57, Tryz.ntmps57
    go_wp2
    go_step3
    go_wp2
    go_step3
    go_wp2
    go_loopw [3, 4, 12] (fun la ok i wr => ∃ k : Nat, ∃ last : Int, k ≤ n ∧ la = .int .i64 last ∧ ok = .bool true ∧ i = .int .i64 k ∧ Below w.heap.size w wr ∧ Hid (mayFrom 0 l = mayFrom last (l.drop k))) (fun _ _ i _ => n - (intOf i).toNat)
    case atStart => exact ⟨0, 0, Nat.zero_le _, rfl, rfl, rfl, Below.refl _ _, by simp [Hid]⟩
    case round =>
      obtain ⟨k, last, hk, rfl, rfl, rfl, hbw, hr⟩ := hrel
      by_cases hlt : k < n
      · obtain ⟨b, off, rfl, hb, c0, c1, c2, c3, c4⟩ := (h.below hbw).sg k hlt (by omega)
        obtain ⟨sk, hsk⟩ : ∃ s, s = l[k]'(by omega) := ⟨_, rfl⟩
        rw [← hsk] at c0 c1 c2 c3 c4
        have HS := Lib.hid hsk
        clear hsk
        have hs := mayFrom_step l k last (by omega) hr.out
        rw [← HS.out] at hs
        obtain ⟨h1, h2⟩ := hs
        have H1 := Lib.hid h1
        have H2 := Lib.hid h2
        clear h1 h2
        rcases Bool.eq_false_or_eq_true (rightB ⟨sk.kind, sk.x, sk.y, sk.cx, sk.cy⟩ last) with hrb | hrb
        · go_wp2_with (go_at_call 113; refine (path_right_any _ _ _ _ _ _ _).mono ?_; rintro e w' ⟨rfl, hb1⟩; obtain ⟨hc1, hf1⟩ := bcell hb1)
          go_roundw
          case rel => exact ⟨k + 1, sk.kind, by omega, rfl, rfl, by go_num, btr (bal hbw _) hb1, H1.out hrb⟩
          case measure => simp [intOf]; omega
        · go_wp2_with (go_at_call 113; refine (path_right_any _ _ _ _ _ _ _).mono ?_; rintro e w' ⟨rfl, hb1⟩; obtain ⟨hc1, hf1⟩ := bcell hb1)
          try rw [Exit.noGoto_ret]
          go_ret
          exact ⟨ret_bool (by rw [mayB_bool l (by omega), H2.out hrb]), btr (bal hbw _) hb1⟩
      · go_wp2
        try rw [Exit.noGoto_ret]
        go_ret
        refine ⟨ret_bool ?_, hbw⟩
        rw [mayB_bool l (by omega), hr.out, List.drop_of_length_le (by omega)]
        rfl
  · go_enter Tryz.func57, Tryz.ntmps57
    go_wp2
    go_step3
    go_wp2
    try rw [Exit.noGoto_ret]
    go_ret
    exact ⟨ret_bool (by simp [mayB]; omega), Below.refl _ _⟩

end Go.Proofs.YtdfkbbcoolgfiaaGreat
