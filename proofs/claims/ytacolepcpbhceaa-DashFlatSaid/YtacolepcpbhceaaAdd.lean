/- path.last, longer, Point, Start, on, Line, Bow, Shut, Join: what they return, and that what was there is as it was. -/
import Derived.Test.YtacolepcpbhceaaMay2
import Derived.Test.YtacolepcpbhceaaEdges
import Derived.Test.YtacolepcpbhceaaAllP
namespace Go.Proofs.Ytacolepcpbhceaa
open Go.RowKit

set_option maxRecDepth 100000 in
theorem last_any (A : Option Addr) (n c : Nat) (l : List Sg) (w : World) (hm : n ≤ 1000000) (h : Sl w 5 A n (sgs l)) :
    Calls Try.prog 37 #[.slice A n c] w fun e w' => e = .returned (.int .i64 (lastK l)) ∧ w = w' := by
  have hl := h.sglen
  go_enter Try.func37, Try.ntmps37
  by_cases h0 : n = 0
  · subst h0
    have hlk : lastK l = 0 := by rw [List.length_eq_zero_iff.1 hl]; rfl
    go_wp2
    go_ret
    exact ⟨by rw [hlk]; rfl, rfl⟩
  · obtain ⟨b, off, rfl, hb, c0, -⟩ := h.sg (n - 1) (by omega) (by omega)
    have hlk := (last_get (l := l) (by omega)).1
    have h1 : 1 ≤ n := by omega
    simp only [hl] at hlk
    rw [← hlk] at c0
    clear hlk
    go_wp2
    go_ret
    exact ⟨rfl, rfl⟩

set_option maxRecDepth 100000 in
set_option maxHeartbeats 1000000 in
theorem longer_any (A B : Option Addr) (n c m d : Nat) (l k : List Sg) (E : List Sg × Int) (w : World) (hm : n ≤ 100000) (hm2 : m ≤ 100000) (h : Sl w 5 A n (sgs l)) (h2 : Sl w 5 B m (sgs k)) (hE : longL l k = E) :
    Calls Try.prog 38 #[.slice A n c, .slice B m d] w fun e w' => ∃ A' c', e = .returned (.tuple #[.slice A' E.1.length c', .int .i64 E.2]) ∧
      w'.ownsRow w.heap.size 36 5 (.slice A' E.1.length c') E.1.length (sgs E.1) ∧ Below w.heap.size w w' := by
  subst hE
  have hl := h.sglen
  have hk := h2.sglen
  go_enter Try.func38, Try.ntmps38
  by_cases hov : 300 < n + m
  · have hL : longL l k = ([], 5) := by unfold longL; rw [if_pos (by omega)]
    have HL := Lib.hid hL
    clear hL
    go_wp2
    go_ret2
    rw [HL.out]
    exact ⟨none, 0, rfl, own_nil, Below.refl _ _⟩
  · have hL : longL l k = (l ++ k, 0) := by unfold longL; rw [if_neg (by omega)]
    have HL := Lib.hid hL
    clear hL
    obtain ⟨ht, i, z, hi, hz, hsize, hby, hzs, -, hbb⟩ := sgT
    go_wp2_with (first
      | (at_make; refine wpList_make_own _ rfl _ _ 24 rfl w.heap.size 36 i z 5 ht hi hz hsize _ _ _ (n + m) rfl rfl (by omega) (by rw [hby]; omega) (by simp [maxLen]; omega) (Nat.le_refl _) ?_; intro w1 hown1 hg1; have hb1 : Below w.heap.size w w1 := grown_below (A := none) (n := 0) (c := 0) (e := 36) (s := 5) (xs := []) (Below.refl _ _) hg1 own_nil)
      | (at_builtin; refine wpList_app rfl _ _ 24 rfl w.heap.size sgT rfl hown1 (sgs l) rfl (h.below hb1) (oneCell_sgs l) (by omega) hb1.size ?_; intro A2 c2 w2 hown2 hg2 hat2; have hb2 := grown_below hb1 hg2 hown1; rw [Nat.zero_add] at hown2)
      | (at_builtin; refine wpList_app rfl _ _ 24 rfl w.heap.size sgT rfl hown2 (sgs k) rfl (h2.below hb2) (oneCell_sgs k) (by omega) hb2.size ?_; intro A3 c3 w3 hown3 hg3 hat3; have hb3 := grown_below hb2 hg3 hown2))
    go_ret2
    have hlen : (l ++ k).length = n + m := by rw [List.length_append]; omega
    rw [HL.out]
    simp only
    rw [hlen]
    exact ⟨A3, c3, rfl, by rw [sgs_app]; exact hown3, hb3⟩

set_option maxRecDepth 100000 in
theorem ptL_yes {l : List Sg} (h0 : l ≠ []) (hok : mayB l = true) : ptL l = if lastK l = 4 then ((lastMv l).1, (lastMv l).2, true) else (lastX l, lastY l, true) := by
  unfold ptL; rw [if_neg (by rw [hok]; simp [h0])]

end Go.Proofs.Ytacolepcpbhceaa
