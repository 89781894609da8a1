/- path.last, longer, Point, Start, on, Line, Bow, Shut, Join: what they return, and that what was there is as it was. -/
import Derived.Test.YtaphmonpdnbiiaaMMay
import Derived.Test.YtaphmonpdnbiiaaMEd
import Derived.Test.YtaphmonpdnbiiaaAllP
namespace Go.Proofs.Ytaphmonpdnbiiaa
open Go.RowKit

set_option maxRecDepth 100000 in
theorem last_any (A : Option Addr) (n c : Nat) (l : List Sg) (w : World) (hm : n ≤ 1000000) (h : Sl w 5 A n (sgs l)) :
    Calls Try.prog 41 #[.slice A n c] w fun e w' => e = .returned (.int .i64 (lastK l)) ∧ w = w' := by
  have hl := h.sglen
  go_enter Try.func41, Try.ntmps41
  by_cases h0 : n = 0
  · subst h0
    have hlk : lastK l = 0 := by rw [List.length_eq_zero_iff.1 hl]; rfl
    go_wp2
    go_ret
    exact ⟨by rw [hlk]; rfl, rfl⟩
  · obtain ⟨b, off, rfl, hb, c0, -⟩ := h.sg (n - 1) (by omega) (by omega)
    have hlk := (last_get (l := l) (by omega)).1
    have h1 : 1 ≤ n := by omega
    simp only [hl] at hlk
    rw [← hlk] at c0
    clear hlk
    go_wp2
    go_ret
    exact ⟨rfl, rfl⟩

set_option maxRecDepth 100000 in
set_option maxHeartbeats 1000000 in
theorem longer_any (A B : Option Addr) (n c m d : Nat) (l k : List Sg) (E : List Sg × Int) (w : World) (hm : n ≤ 100000) (hm2 : m ≤ 100000) (h : Sl w 5 A n (sgs l)) (h2 : Sl w 5 B m (sgs k)) (hE : longL l k = E) :
    Calls Try.prog 42 #[.slice A n c, .slice B m d] w fun e w' => ∃ A' c', e = .returned (.tuple #[.slice A' E.1.length c', .int .i64 E.2]) ∧
      w'.ownsRow w.heap.size 42 5 (.slice A' E.1.length c') E.1.length (sgs E.1) ∧ Below w.heap.size w w' := by
  subst hE
  have hl := h.sglen
  have hk := h2.sglen
  go_enter Try.func42, Try.ntmps42
  by_cases hov : 300 < n + m
  · have hL : longL l k = ([], 5) := by unfold longL; rw [if_pos (by omega)]
    have HL := Lib.hid hL
    clear hL
    go_wp2
    go_ret2
    rw [HL.out]
    exact ⟨none, 0, rfl, own_nil, Below.refl _ _⟩
  · have hL : longL l k = (l ++ k, 0) := by unfold longL; rw [if_neg (by omega)]
    have HL := Lib.hid hL
    clear hL
    obtain ⟨ht, i, z, hi, hz, hsize, hby, hzs, -, hbb⟩ := sgT
    go_wp2_with (first
      | (at_make; refine wpList_make_own _ rfl _ _ 35 rfl w.heap.size 42 i z 5 ht hi hz hsize _ _ _ (n + m) rfl rfl (by omega) (by rw [hby]; omega) (by simp [maxLen]; omega) (Nat.le_refl _) ?_; intro w1 hown1 hg1; have hb1 : Below w.heap.size w w1 := grown_below (A := none) (n := 0) (c := 0) (e := 42) (s := 5) (xs := []) (Below.refl _ _) hg1 own_nil)
      | (at_builtin; refine wpList_app rfl _ _ 35 rfl w.heap.size sgT rfl hown1 (sgs l) rfl (h.below hb1) (oneCell_sgs l) (by omega) hb1.size ?_; intro A2 c2 w2 hown2 hg2 hat2; have hb2 := grown_below hb1 hg2 hown1; rw [Nat.zero_add] at hown2)
      | (at_builtin; refine wpList_app rfl _ _ 35 rfl w.heap.size sgT rfl hown2 (sgs k) rfl (h2.below hb2) (oneCell_sgs k) (by omega) hb2.size ?_; intro A3 c3 w3 hown3 hg3 hat3; have hb3 := grown_below hb2 hg3 hown2))
    go_ret2
    have hlen : (l ++ k).length = n + m := by rw [List.length_append]; omega
    rw [HL.out]
    simp only
    rw [hlen]
    exact ⟨A3, c3, rfl, by rw [sgs_app]; exact hown3, hb3⟩

set_option maxRecDepth 100000 in
theorem Point_no (A : Option Addr) (n c : Nat) (l : List Sg) (w : World) (hm : n ≤ 1000000) (h : Sl w 5 A n (sgs l)) (hn : l = [] ∨ mayB l = false) :
    Calls Try.prog 83 #[.slice A n c] w fun e w' => e = .returned (.tuple #[.int .i64 0, .int .i64 0, .bool false]) ∧ Below w.heap.size w w' := by
  have hl := h.sglen
  go_enter Try.func83, Try.ntmps83
  by_cases h0 : n = 0
  · subst h0
    go_wp2
    go_ret3
    exact ⟨rfl, Below.refl _ _⟩
  · have hmy : mayB l = false := by
      rcases hn with h1 | h1
      · rw [h1] at hl; exact absurd hl.symm h0
      · exact h1
    have hn0 : ((n : Int) == 0) = false := by simp; omega
    have hn1 : (n == 0) = false := by simp; omega
    go_wp2_with (go_at_call 12; refine (path_May_any _ _ _ l _ hm h).mono ?_; rintro e w1 ⟨rfl, hb1⟩; rw [hmy])
    go_ret3
    exact ⟨rfl, hb1⟩

set_option maxRecDepth 100000 in
theorem ptL_yes {l : List Sg} (h0 : l ≠ []) (hok : mayB l = true) : ptL l = if lastK l = 4 then ((lastMv l).1, (lastMv l).2, true) else (lastX l, lastY l, true) := by
  unfold ptL; rw [if_neg (by rw [hok]; simp [h0])]

set_option maxRecDepth 100000 in
set_option maxHeartbeats 1000000 in
theorem Point_yes (A : Option Addr) (n c : Nat) (l : List Sg) (w : World) (hm : n ≤ 1000000) (h : Sl w 5 A n (sgs l)) (h0 : l ≠ []) (hok : mayB l = true) :
    Calls Try.prog 83 #[.slice A n c] w fun e w' => e = .returned (.tuple #[.int .i64 (ptL l).1, .int .i64 (ptL l).2.1, .bool (ptL l).2.2]) ∧ Below w.heap.size w w' := by
  have hl := h.sglen
  have hn : 1 ≤ n := by have := List.length_pos_iff.2 h0; omega
  have hn0 : ((n : Int) == 0) = false := by simp; omega
  have hn1 : (n == 0) = false := by simp; omega
  have hp := ptL_yes h0 hok
  obtain ⟨g1, g2, g3⟩ := last_get (l := l) (by omega)
  simp only [hl] at g1 g2 g3
  have hfirst := may_first hok (by omega)
  have HP := Lib.hid hp
  have HOK := Lib.hid hok
  clear hp hok h0
  go_enter Try.func83, Try.ntmps83
  go_wp2_with fail
  refine (path_May_any _ _ _ l _ hm h).mono ?_; rintro e w1 ⟨rfl, hb1⟩
  rw [HOK.out]
  obtain ⟨b, off, rfl, hb, c0, c1, c2, -⟩ := (h.below hb1).sg (n - 1) (by omega) (by omega)
  rw [← g1] at c0
  rw [← g2] at c1
  rw [← g3] at c2
  have hs1 := h.below hb1
  clear g1 g2 g3 h
  by_cases h4 : lastK l = 4
  · have HP2 := Lib.hid (show ptL l = ((lastMv l).1, (lastMv l).2, true) by rw [HP.out, if_pos h4])
    rw [h4] at c0
    clear h4 c1 c2
    go_wp2
    go_loop [5] (fun i => ∃ k : Nat, k < n ∧ i = .int .i64 k ∧ Hid (lastMv l = lastMv (l.take (k + 1)))) (fun i => (intOf i).toNat)
    case atStart => exact ⟨n - 1, by omega, by go_num, Lib.hid (by rw [show n - 1 + 1 = n by omega, ← hl, List.take_length])⟩
    case round =>
      obtain ⟨k, hk, rfl, hmv⟩ := hrel
      obtain ⟨b', off', e2, hb', d0, d1, d2, -⟩ := hs1.sg k hk (by omega)
      injection e2 with e2; injection e2 with e3 e4; subst e3; subst e4
      have hmt := lastMv_take (l := l) (i := k) (by omega)
      have hf0 : l[k]'(by omega) = l[0]'(by omega) ∨ k ≠ 0 := by
        by_cases hk0 : k = 0
        · subst hk0; exact .inl rfl
        · exact .inr hk0
      obtain ⟨sk, hsk⟩ : ∃ sk, sk = l[k]'(by omega) := ⟨_, rfl⟩
      rw [← hsk] at d0 d1 d2 hmt hf0
      by_cases hk1 : sk.kind = 1
      · have HMT := Lib.hid (show lastMv l = (sk.x, sk.y) by rw [hmv.out, hmt, if_pos hk1])
        have hk1' : (sk.kind == 1) = true := by simp [hk1]
        have hk1n : (sk.kind != 1) = false := by simp [hk1]
        clear hmt hsk hf0 hmv hfirst
        go_wp2
        go_quiet (fail)
        go_wp2
        go_ret3
        rw [HP2.out, HMT.out]
        exact ⟨rfl, bdrewN hb1 _⟩
      · have hk0 : k ≠ 0 := by
          rcases hf0 with e | e
          · rw [e] at hk1; exact absurd hfirst hk1
          · exact e
        have HMT := Lib.hid (show lastMv l = lastMv (l.take k) by rw [hmv.out, hmt, if_neg hk1])
        have hk1' : (sk.kind == 1) = false := by simp [hk1]
        have hk1n : (sk.kind != 1) = true := by simp [hk1]
        clear hmt hsk hf0 hmv hfirst hk1
        go_wp2
        go_round
        case rel => exact ⟨k - 1, by omega, by go_num, Lib.hid (by rw [show k - 1 + 1 = k by omega]; exact HMT.out)⟩
        case measure => simp [intOf]; omega
  · have HP2 := Lib.hid (show ptL l = (lastX l, lastY l, true) by rw [HP.out, if_neg h4])
    have h4' : (lastK l == 4) = false := by simp [h4]
    clear h4
    go_wp2
    go_quiet (fail)
    go_wp2
    go_ret3
    rw [HP2.out]
    exact ⟨rfl, bdrewN hb1 _⟩

set_option maxRecDepth 100000 in
theorem Point_any (A : Option Addr) (n c : Nat) (l : List Sg) (p : Int × Int × Bool) (w : World) (hm : n ≤ 1000000) (h : Sl w 5 A n (sgs l)) (hp : ptL l = p) :
    Calls Try.prog 83 #[.slice A n c] w fun e w' => e = .returned (.tuple #[.int .i64 p.1, .int .i64 p.2.1, .bool p.2.2]) ∧ Below w.heap.size w w' := by
  subst hp
  by_cases hn : l = [] ∨ mayB l = false
  · have : ptL l = (0, 0, false) := by unfold ptL; rw [if_pos hn]
    rw [this]; exact Point_no A n c l w hm h hn
  · exact Point_yes A n c l w hm h (fun e => hn (.inl e)) (by cases hb : mayB l <;> simp_all)

end Go.Proofs.Ytaphmonpdnbiiaa
