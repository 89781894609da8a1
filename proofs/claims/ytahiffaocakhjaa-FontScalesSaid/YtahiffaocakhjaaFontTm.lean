/- tympanlaw41.times. -/
import Derived.Test.YtahiffaocakhjaaFontScP
namespace Go.Proofs.Ytahiffaocakhjaa
open Go.RowKit Go.BigFrame

set_option maxRecDepth 100000 in
set_option maxHeartbeats 4000000 in
theorem times_any (A : Option Addr) (n c : Nat) (kk : Int) (l : List Sg) (w : World) (hkk : 1 ≤ kk ∧ kk ≤ 5) (h : Sl w 5 A n (sgs l)) (hl : mayB l = true) :
    Calls Try.prog 19 #[.slice A n c, .int .i64 kk] w fun e w' => ∃ A' c', e = .returned (.slice A' n c') ∧ Sl w' 5 A' n (sgs (l.map (tmS kk))) ∧ Below w.heap.size w w' := by
  have hln := h.sglen
  have hn3 : n ≤ 300 := by rw [← hln]; exact may_len hl
  have HP := Lib.hid (pieces_of l 0 (mayB_from hl).1)
  clear hl
  go_enter Try.func19, Try.ntmps19
  go_wp2_with fail
  go_loopw [5, 6] (fun out i wr => ∃ k A' c', k ≤ n ∧ out = .slice A' k c' ∧ i = .int .i64 (k : Int) ∧ Below w.heap.size w wr ∧ wr.ownsRow w.heap.size 48 5 (.slice A' k c') k (sgs ((l.take k).map (tmS kk)))) (fun _ i _ => n - (intOf i).toNat)
  case atStart => exact ⟨0, none, 0, by omega, rfl, rfl, Below.refl _ _, own_nil⟩
  case round =>
    obtain ⟨wo, rfl⟩ : ∃ wo : World, wo = wr := ⟨_, rfl⟩
    obtain ⟨k, A2, c2, hk, rfl, rfl, hbr, hown⟩ := hrel
    have hsz := hbr.size
    by_cases hlt : k < n
    · have hkl : k < l.length := by omega
      obtain ⟨b, off, rfl, hb, d0, d1, d2, d3, d4⟩ := (h.below hbr).sg k hlt hkl
      obtain ⟨q1, q2, q3, q4⟩ := pieceB_co (HP.out l[k] (List.getElem_mem hkl))
      have htk := List.take_succ_eq_append_getElem (l := l) hkl
      obtain ⟨s, hs⟩ : ∃ s, s = l[k] := ⟨_, rfl⟩
      rw [← hs] at d0 d1 d2 d3 d4 q1 q2 q3 q4 htk
      have HTK := Lib.hid htk
      rw [co_iff] at q1 q2 q3 q4
      have m1 := mul_bdF (n := 5) (m := 8191) (x := kk) (y := s.x) (by unfold Bd; omega) q1 (by omega) (by omega)
      have m2 := mul_bdF (n := 5) (m := 8191) (x := kk) (y := s.y) (by unfold Bd; omega) q2 (by omega) (by omega)
      have m3 := mul_bdF (n := 5) (m := 8191) (x := kk) (y := s.cx) (by unfold Bd; omega) q3 (by omega) (by omega)
      have m4 := mul_bdF (n := 5) (m := 8191) (x := kk) (y := s.cy) (by unfold Bd; omega) q4 (by omega) (by omega)
      have f1 : IntKind.i64.wrap (kk * s.x) = kk * s.x := IntWalk.i64_in _ (by unfold Bd at *; omega)
      have f2 : IntKind.i64.wrap (kk * s.y) = kk * s.y := IntWalk.i64_in _ (by unfold Bd at *; omega)
      have f3 : IntKind.i64.wrap (kk * s.cx) = kk * s.cx := IntWalk.i64_in _ (by unfold Bd at *; omega)
      have f4 : IntKind.i64.wrap (kk * s.cy) = kk * s.cy := IntWalk.i64_in _ (by unfold Bd at *; omega)
      clear htk hs q1 q2 q3 q4 m1 m2 m3 m4
      go_wp2_with (first
        | (at_builtin; refine wpList_app rfl _ _ 34 rfl w.heap.size sgT0 rfl (own_below hown (bal (bal (Below.refl _ _) _) _)) (sgc ⟨s.kind, kk * s.x, kk * s.y, kk * s.cx, kk * s.cy⟩) rfl (sl_newN _ (by simp) rfl) (oneCell_sgc _) (by omega) (bal (bal hbr _) _).size ?_; intro A3 c3 w3 hown3 hg3 hat3)
        | fail)
      go_roundw
      case rel => exact ⟨k + 1, A3, c3, by omega, rfl, by go_num, grown_below (bal (bal hbr _) _) hg3 (own_below hown (bal (bal (Below.refl _ _) _) _)), by rw [HTK.out, List.map_append, sgs_app, List.map_singleton, sgs_one]; exact hown3⟩
      case measure => (simp [intOf]) <;> omega
    · obtain rfl : k = n := by omega
      have htake : l.take k = l := List.take_of_length_le (by omega)
      rw [htake] at hown
      go_wp2
      go_ret
      exact ⟨A2, c2, rfl, own_sl hown, hbr⟩
end Go.Proofs.Ytahiffaocakhjaa
