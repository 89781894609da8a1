/- path.last, longer, Point, Start, on, Line, Bow, Shut, Join: what they return, and that what was there is as it was. -/
import Derived.Test.YtdfkbbcoolgfiaaGreatMMay
import Derived.Test.YtdfkbbcoolgfiaaGreatMEd
import Derived.Test.YtdfkbbcoolgfiaaGreatAllP
namespace Go.Proofs.YtdfkbbcoolgfiaaGreat
open Go.RowKit

set_option maxRecDepth 100000 in
theorem last_any (A : Option Addr) (n c : Nat) (l : List Sg) (w : World) (hm : n ≤ 1000000) (h : Sl w 5 A n (sgs l)) :
    Calls Tryz.prog 111 #[.slice A n c] w fun e w' => e = .returned (.int .i64 (lastK l)) ∧ w = w' := by
  have hl := h.sglen
  go_enter Tryz.func111, Tryz.ntmps111
  by_cases h0 : n = 0
  · subst h0
    have hlk : lastK l = 0 := by rw [List.length_eq_zero_iff.1 hl]; rfl
    go_wp2
    go_ret
    exact ⟨by rw [hlk]; rfl, rfl⟩
  · obtain ⟨b, off, rfl, hb, c0, -⟩ := h.sg (n - 1) (by omega) (by omega)
    have hlk := (last_get (l := l) (by omega)).1
    have h1 : 1 ≤ n := by omega
    simp only [hl] at hlk
    rw [← hlk] at c0
    clear hlk
    go_wp2
    go_ret
    exact ⟨rfl, rfl⟩

set_option maxRecDepth 100000 in
set_option maxHeartbeats 1000000 in
theorem longer_any (A B : Option Addr) (n c m d : Nat) (l k : List Sg) (E : List Sg × Int) (w : World) (hm : n ≤ 100000) (hm2 : m ≤ 100000) (h : Sl w 5 A n (sgs l)) (h2 : Sl w 5 B m (sgs k)) (hE : longL l k = E) :
    Calls Tryz.prog 112 #[.slice A n c, .slice B m d] w fun e w' => ∃ A' c', e = .returned (.tuple #[.slice A' E.1.length c', .int .i64 E.2]) ∧
      w'.ownsRow w.heap.size 63 5 (.slice A' E.1.length c') E.1.length (sgs E.1) ∧ Below w.heap.size w w' := by
  subst hE
  have hl := h.sglen
  have hk := h2.sglen
  go_enter Tryz.func112, Tryz.ntmps112
  by_cases hov : 300 < n + m
  · have hL : longL l k = ([], 5) := by unfold longL; rw [if_pos (by omega)]
    have HL := Lib.hid hL
    clear hL
    go_wp2
    go_ret2
    rw [HL.out]
    exact ⟨none, 0, rfl, own_nil, Below.refl _ _⟩
  · have hL : longL l k = (l ++ k, 0) := by unfold longL; rw [if_neg (by omega)]
    have HL := Lib.hid hL
    clear hL
    obtain ⟨ht, i, z, hi, hz, hsize, hby, hzs, -, hbb⟩ := sgT
    go_wp2_with (first
      | (at_make; refine wpList_make_own _ rfl _ _ 24 rfl w.heap.size 63 i z 5 ht hi hz hsize _ _ _ (n + m) rfl rfl (by omega) (by rw [hby]; omega) (by simp [maxLen]; omega) (Nat.le_refl _) ?_; intro w1 hown1 hg1; have hb1 : Below w.heap.size w w1 := grown_below (A := none) (n := 0) (c := 0) (e := 63) (s := 5) (xs := []) (Below.refl _ _) hg1 own_nil)
      | (at_builtin; refine wpList_app rfl _ _ 24 rfl w.heap.size sgT rfl hown1 (sgs l) rfl (h.below hb1) (oneCell_sgs l) (by omega) hb1.size ?_; intro A2 c2 w2 hown2 hg2 hat2; have hb2 := grown_below hb1 hg2 hown1; rw [Nat.zero_add] at hown2)
      | (at_builtin; refine wpList_app rfl _ _ 24 rfl w.heap.size sgT rfl hown2 (sgs k) rfl (h2.below hb2) (oneCell_sgs k) (by omega) hb2.size ?_; intro A3 c3 w3 hown3 hg3 hat3; have hb3 := grown_below hb2 hg3 hown2))
    go_ret2
    have hlen : (l ++ k).length = n + m := by rw [List.length_append]; omega
    rw [HL.out]
    simp only
    rw [hlen]
    exact ⟨A3, c3, rfl, by rw [sgs_app]; exact hown3, hb3⟩

set_option maxRecDepth 100000 in
theorem Point_no (A : Option Addr) (n c : Nat) (l : List Sg) (w : World) (hm : n ≤ 1000000) (h : Sl w 5 A n (sgs l)) (hn : l = [] ∨ mayB l = false) :
    Calls Tryz.prog 133 #[.slice A n c] w fun e w' => e = .returned (.tuple #[.int .i64 0, .int .i64 0, .bool false]) ∧ Below w.heap.size w w' := by
  have hl := h.sglen
  go_enter Tryz.func133, Tryz.ntmps133
  by_cases h0 : n = 0
  · subst h0
    go_wp2
    go_ret3
    exact ⟨rfl, Below.refl _ _⟩
  · have hmy : mayB l = false := by
      rcases hn with h1 | h1
      · rw [h1] at hl; exact absurd hl.symm h0
      · exact h1
    have hn0 : ((n : Int) == 0) = false := by simp; omega
    have hn1 : (n == 0) = false := by simp; omega
    go_wp2_with (go_at_call 57; refine (path_May_any _ _ _ l _ hm h).mono ?_; rintro e w1 ⟨rfl, hb1⟩; rw [hmy])
    go_ret3
    exact ⟨rfl, hb1⟩

set_option maxRecDepth 100000 in
theorem ptL_yes {l : List Sg} (h0 : l ≠ []) (hok : mayB l = true) : ptL l = if lastK l = 4 then ((lastMv l).1, (lastMv l).2, true) else (lastX l, lastY l, true) := by
  unfold ptL; rw [if_neg (by rw [hok]; simp [h0])]

set_option maxRecDepth 100000 in
set_option maxHeartbeats 1000000 in
theorem Point_yes (A : Option Addr) (n c : Nat) (l : List Sg) (w : World) (hm : n ≤ 1000000) (h : Sl w 5 A n (sgs l)) (h0 : l ≠ []) (hok : mayB l = true) :
    Calls Tryz.prog 133 #[.slice A n c] w fun e w' => e = .returned (.tuple #[.int .i64 (ptL l).1, .int .i64 (ptL l).2.1, .bool (ptL l).2.2]) ∧ Below w.heap.size w w' := by
  have hl := h.sglen
  have hn : 1 ≤ n := by have := List.length_pos_iff.2 h0; omega
  have hn0 : ((n : Int) == 0) = false := by simp; omega
  have hn1 : (n == 0) = false := by simp; omega
  have hp := ptL_yes h0 hok
  obtain ⟨g1, g2, g3⟩ := last_get (l := l) (by omega)
  simp only [hl] at g1 g2 g3
  have hfirst := may_first hok (by omega)
  have HP := Lib.hid hp
  have HOK := Lib.hid hok
  clear hp hok h0
  go_enter Tryz.func133, Tryz.ntmps133
  go_wp2_with fail
  refine (path_May_any _ _ _ l _ hm h).mono ?_; rintro e w1 ⟨rfl, hb1⟩
  rw [HOK.out]
  obtain ⟨b, off, rfl, hb, c0, c1, c2, -⟩ := (h.below hb1).sg (n - 1) (by omega) (by omega)
  rw [← g1] at c0
  rw [← g2] at c1
  rw [← g3] at c2
  have hs1 := h.below hb1
  clear g1 g2 g3 h
  by_cases h4 : lastK l = 4
  · have HP2 := Lib.hid (show ptL l = ((lastMv l).1, (lastMv l).2, true) by rw [HP.out, if_pos h4])
    rw [h4] at c0
    clear h4 c1 c2
    go_wp2
    go_loop [5] (fun i => ∃ k : Nat, k < n ∧ i = .int .i64 k ∧ Hid (lastMv l = lastMv (l.take (k + 1)))) (fun i => (intOf i).toNat)
    case atStart => exact ⟨n - 1, by omega, by go_num, Lib.hid (by rw [show n - 1 + 1 = n by omega, ← hl, List.take_length])⟩
    case round =>
      obtain ⟨k, hk, rfl, hmv⟩ := hrel
      obtain ⟨b', off', e2, hb', d0, d1, d2, -⟩ := hs1.sg k hk (by omega)
      injection e2 with e2; injection e2 with e3 e4; subst e3; subst e4
      have hmt := lastMv_take (l := l) (i := k) (by omega)
      have hf0 : l[k]'(by omega) = l[0]'(by omega) ∨ k ≠ 0 := by
        by_cases hk0 : k = 0
        · subst hk0; exact .inl rfl
        · exact .inr hk0
      obtain ⟨sk, hsk⟩ : ∃ sk, sk = l[k]'(by omega) := ⟨_, rfl⟩
      rw [← hsk] at d0 d1 d2 hmt hf0
      by_cases hk1 : sk.kind = 1
      · have HMT := Lib.hid (show lastMv l = (sk.x, sk.y) by rw [hmv.out, hmt, if_pos hk1])
        have hk1' : (sk.kind == 1) = true := by simp [hk1]
        have hk1n : (sk.kind != 1) = false := by simp [hk1]
        clear hmt hsk hf0 hmv hfirst
        go_wp2
        go_quiet (fail)
        go_wp2
        go_ret3
        rw [HP2.out, HMT.out]
        exact ⟨rfl, bdrewN hb1 _⟩
      · have hk0 : k ≠ 0 := by
          rcases hf0 with e | e
          · rw [e] at hk1; exact absurd hfirst hk1
          · exact e
        have HMT := Lib.hid (show lastMv l = lastMv (l.take k) by rw [hmv.out, hmt, if_neg hk1])
        have hk1' : (sk.kind == 1) = false := by simp [hk1]
        have hk1n : (sk.kind != 1) = true := by simp [hk1]
        clear hmt hsk hf0 hmv hfirst hk1
        go_wp2
        go_round
        case rel => exact ⟨k - 1, by omega, by go_num, Lib.hid (by rw [show k - 1 + 1 = k by omega]; exact HMT.out)⟩
        case measure => simp [intOf]; omega
  · have HP2 := Lib.hid (show ptL l = (lastX l, lastY l, true) by rw [HP.out, if_neg h4])
    have h4' : (lastK l == 4) = false := by simp [h4]
    clear h4
    go_wp2
    go_quiet (fail)
    go_wp2
    go_ret3
    rw [HP2.out]
    exact ⟨rfl, bdrewN hb1 _⟩

set_option maxRecDepth 100000 in
theorem Point_any (A : Option Addr) (n c : Nat) (l : List Sg) (p : Int × Int × Bool) (w : World) (hm : n ≤ 1000000) (h : Sl w 5 A n (sgs l)) (hp : ptL l = p) :
    Calls Tryz.prog 133 #[.slice A n c] w fun e w' => e = .returned (.tuple #[.int .i64 p.1, .int .i64 p.2.1, .bool p.2.2]) ∧ Below w.heap.size w w' := by
  subst hp
  by_cases hn : l = [] ∨ mayB l = false
  · have : ptL l = (0, 0, false) := by unfold ptL; rw [if_pos hn]
    rw [this]; exact Point_no A n c l w hm h hn
  · exact Point_yes A n c l w hm h (fun e => hn (.inl e)) (by cases hb : mayB l <;> simp_all)

end Go.Proofs.YtdfkbbcoolgfiaaGreat

namespace Go.Proofs.YtdfkbbcoolgfiaaGreat
open Go.RowKit

/-- The shorter slice reads as the shorter list. -/
theorem Sl.front {w : World} {A : Option Addr} {n : Nat} {l : List Sg} (h : Sl w 5 A n (sgs l)) : Sl w 5 A (n - 1) (sgs l.dropLast) := by
  have hl := h.sglen
  refine ⟨by rw [sgs_len, List.length_dropLast, hl], fun hn => ?_⟩
  obtain ⟨b, off, e, hb, hc⟩ := h.2 (by omega)
  refine ⟨b, off, e, hb, fun j u hu => hc j u ?_⟩
  have hs : sgs l = sgs l.dropLast ++ sgs [l[n - 1]'(by omega)] := by
    rw [← sgs_app]
    congr 1
    have hne : l ≠ [] := by intro e; rw [e] at hl; simp at hl; omega
    have := (List.dropLast_concat_getLast hne).symm
    rw [List.getLast_eq_getElem] at this
    simp only [hl] at this
    exact this
  rw [hs, List.getElem?_append_left]
  · exact hu
  · exact (List.getElem?_eq_some_iff.1 hu).1

theorem nearB_near {x y : Int} (h : nearB [x, y] = true) : co x = true ∧ co y = true := by simpa [nearB] using h

set_option maxHeartbeats 1000000 in
theorem Start_any (A : Option Addr) (n c : Nat) (x y : Int) (l : List Sg) (E : List Sg × Int) (w : World) (hm : n ≤ 100000) (hnc : n ≤ c) (h : Sl w 5 A n (sgs l)) (hE : startL l x y = E) :
    Calls Tryz.prog 56 #[.slice A n c, .int .i64 x, .int .i64 y] w fun e w' => ∃ A' c', e = .returned (.tuple #[.slice A' E.1.length c', .int .i64 E.2]) ∧
      w'.ownsRow w.heap.size 63 5 (.slice A' E.1.length c') E.1.length (sgs E.1) ∧ Below w.heap.size w w' := by
  have hl := h.sglen
  have HE := Lib.hid hE
  clear hE
  go_enter Tryz.func56, Tryz.ntmps56
  go_wp2_with fail
  refine (path_May_any _ _ _ l _ (by omega) h).mono ?_; rintro e w1 ⟨rfl, hb1⟩
  cases hok : mayB l
  · have HE1 := Lib.hid (show E = ([], 1) by rw [← HE.out, startL, hok]; rfl)
    clear HE
    go_wp2
    go_ret2
    rw [HE1.out]
    exact ⟨none, 0, rfl, own_nil, hb1⟩
  · have hs1 := h.below hb1
    go_wp2_with fail
    refine (path_near_any _ _ _ [x, y] _ (by simp [ints]) (sl_new (ints [x, y]) rfl rfl)).mono ?_; rintro e w2 ⟨rfl, rfl⟩
    have hs2 := hs1.below (bal (Below.refl _ _) (.cells (ints [x, y]).toArray 3))
    cases hnr : nearB [x, y]
    · have HE1 := Lib.hid (show E = ([], 2) by rw [← HE.out, startL, hok, hnr]; rfl)
      clear HE
      go_wp2
      go_ret2
      rw [HE1.out]
      exact ⟨none, 0, rfl, own_nil, bal hb1 _⟩
    · go_wp2_with fail
      refine (last_any _ _ _ l _ (by omega) hs2).mono ?_; rintro e w3 ⟨rfl, rfl⟩
      by_cases hk1 : lastK l = 1
      · have HE1 := Lib.hid (show longL l.dropLast [⟨1, x, y, 0, 0⟩] = E by rw [← HE.out, startL, hok, hnr, if_pos hk1]; rfl)
        have hk1' : (lastK l == 1) = true := by simp [hk1]
        have hn1 : 1 ≤ n := by
          apply Classical.byContradiction; intro h0
          rw [List.length_eq_zero_iff.1 (show l.length = 0 by omega)] at hk1; cases hk1
        clear hk1 HE
        go_wp2_with fail
        refine (longer_any _ _ _ _ _ _ l.dropLast [⟨1, x, y, 0, 0⟩] E _ (by omega) (by omega) (hs2.front.below (bal (Below.refl _ _) _)) (sl_newN (sgc ⟨1, x, y, 0, 0⟩) (by simp) rfl) HE1.out).mono ?_
        rintro e w4 ⟨A4, c4, rfl, hown4, hb4⟩
        go_wp2
        go_ret2
        exact ⟨A4, c4, rfl, own_mono hown4 (bal (bal hb1 _) _).size, btr (bal (bal hb1 _) _) hb4⟩
      · have HE1 := Lib.hid (show longL l [⟨1, x, y, 0, 0⟩] = E by rw [← HE.out, startL, hok, hnr, if_neg hk1]; rfl)
        have hk1' : (lastK l == 1) = false := by simp [hk1]
        clear hk1 HE
        go_wp2_with fail
        refine (longer_any _ _ _ _ _ _ l [⟨1, x, y, 0, 0⟩] E _ (by omega) (by omega) (hs2.below (bal (Below.refl _ _) _)) (sl_newN (sgc ⟨1, x, y, 0, 0⟩) (by simp) rfl) HE1.out).mono ?_
        rintro e w4 ⟨A4, c4, rfl, hown4, hb4⟩
        go_wp2
        go_ret2
        exact ⟨A4, c4, rfl, own_mono hown4 (bal (bal hb1 _) _).size, btr (bal (bal hb1 _) _) hb4⟩

set_option maxHeartbeats 1000000 in
theorem on_any (A : Option Addr) (n c : Nat) (l : List Sg) (s : Sg) (E : List Sg × Int) (w : World) (hm : n ≤ 100000) (h : Sl w 5 A n (sgs l)) (hE : onL l s = E) :
    Calls Tryz.prog 210 #[.slice A n c, .agg #[.int .i64 s.kind, .int .i64 s.x, .int .i64 s.y, .int .i64 s.cx, .int .i64 s.cy]] w fun e w' => ∃ A' c', e = .returned (.tuple #[.slice A' E.1.length c', .int .i64 E.2]) ∧
      w'.ownsRow w.heap.size 63 5 (.slice A' E.1.length c') E.1.length (sgs E.1) ∧ Below w.heap.size w w' := by
  have hl := h.sglen
  have HE := Lib.hid hE
  clear hE
  go_enter Tryz.func210, Tryz.ntmps210
  go_wp2_with fail
  refine (path_May_any _ _ _ l _ (by omega) (h.below (bal (Below.refl _ _) _))).mono ?_; rintro e w1 ⟨rfl, hb1⟩
  have hB1 : Below w.heap.size w w1 := btr (bal (Below.refl _ _) _) hb1
  have hbx : w.heap.size < w1.heap.size := by have := hb1.size; simp at this; omega
  have k0 : w1.cell? ⟨w.heap.size, 0, none⟩ = some (.int .i64 s.kind) := (later_cell hb1 (by simp)).trans (new_cell _ 0)
  have k1 : w1.cell? ⟨w.heap.size, 1, none⟩ = some (.int .i64 s.x) := (later_cell hb1 (by simp)).trans (new_cell _ 1)
  have k2 : w1.cell? ⟨w.heap.size, 2, none⟩ = some (.int .i64 s.y) := (later_cell hb1 (by simp)).trans (new_cell _ 2)
  have k3 : w1.cell? ⟨w.heap.size, 3, none⟩ = some (.int .i64 s.cx) := (later_cell hb1 (by simp)).trans (new_cell _ 3)
  have k4 : w1.cell? ⟨w.heap.size, 4, none⟩ = some (.int .i64 s.cy) := (later_cell hb1 (by simp)).trans (new_cell _ 4)
  have hs1 := h.below hB1
  clear hb1 h
  cases hok : mayB l
  · have HE1 := Lib.hid (show E = ([], 1) by rw [← HE.out, onL, hok]; rfl)
    clear HE
    go_wp2
    go_ret2
    rw [HE1.out]
    exact ⟨none, 0, rfl, own_nil, hB1⟩
  · by_cases h0 : n = 0
    · have hl0 := List.length_eq_zero_iff.1 (hl.trans h0)
      have HE1 := Lib.hid (show E = ([], 13) by rw [← HE.out, onL, hok, if_pos hl0]; rfl)
      have hn0 : ((n : Int) == 0) = true := by simp; omega
      have hn1 : (n == 0) = true := by simp; omega
      clear HE hl0
      go_wp2
      go_ret2
      rw [HE1.out]
      exact ⟨none, 0, rfl, own_nil, hB1⟩
    · have hl0 : l ≠ [] := fun e => h0 (by rw [← hl, e]; rfl)
      have hn0 : ((n : Int) == 0) = false := by simp; omega
      have hn1 : (n == 0) = false := by simp; omega
      have HL0 := Lib.hid hl0
      clear hl0 h0
      go_wp2_with fail
      refine (path_near_any _ _ _ [s.x, s.y, s.cx, s.cy] _ (by simp [ints]) (sl_new (ints [s.x, s.y, s.cx, s.cy]) rfl rfl)).mono ?_; rintro e w2 ⟨rfl, rfl⟩
      have hbB : Below w1.heap.size w1 (w1.alloc (.cells (ints [s.x, s.y, s.cx, s.cy]).toArray 3)) := bal (Below.refl _ _) _
      have hs2 := hs1.below hbB
      cases hnr : nearB [s.x, s.y, s.cx, s.cy]
      · have HE1 := Lib.hid (show E = ([], 2) by rw [← HE.out, onL, hok, if_neg (by simp), if_neg HL0.out, if_pos hnr])
        clear HE
        go_wp2
        go_ret2
        rw [HE1.out]
        exact ⟨none, 0, rfl, own_nil, bal hB1 _⟩
      · go_wp2_with fail
        refine (last_any _ _ _ l _ (by omega) hs2).mono ?_; rintro e w3 ⟨rfl, rfl⟩
        by_cases hk4 : lastK l = 4
        · obtain ⟨⟨px, py, pok⟩, hp⟩ : ∃ p, ptL l = p := ⟨_, rfl⟩
          have HE1 := Lib.hid (show longL l [⟨1, px, py, 0, 0⟩, s] = E by rw [← HE.out, onL, hok, if_neg (by simp), if_neg HL0.out, hnr, if_neg (by simp), if_pos hk4, hp])
          have hk4' : (lastK l == 4) = true := by simp [hk4]
          have HP := Lib.hid hp
          clear hk4 HE hp
          go_wp2_with fail
          refine (Point_any _ _ _ l _ _ (by omega) hs2 HP.out).mono ?_; rintro e w4 ⟨rfl, hb4⟩
          have hB4 := btr (bal hB1 _) hb4
          have k0' := (later_cell hb4 (by simp; omega)).trans (((bcell hbB).1 _ 0 hbx).trans k0)
          have k1' := (later_cell hb4 (by simp; omega)).trans (((bcell hbB).1 _ 1 hbx).trans k1)
          have k2' := (later_cell hb4 (by simp; omega)).trans (((bcell hbB).1 _ 2 hbx).trans k2)
          have k3' := (later_cell hb4 (by simp; omega)).trans (((bcell hbB).1 _ 3 hbx).trans k3)
          have k4' := (later_cell hb4 (by simp; omega)).trans (((bcell hbB).1 _ 4 hbx).trans k4)
          have hs4 := hs2.below hb4
          clear k0 k1 k2 k3 k4 hb4
          go_wp2_with fail
          refine (longer_any _ _ _ _ _ _ l [⟨1, px, py, 0, 0⟩, s] E _ (by omega) (by omega) (hs4.below (bal (Below.refl _ _) _)) (sl_newN (sgs [⟨1, px, py, 0, 0⟩, s]) (by simp) rfl) HE1.out).mono ?_
          rintro e w5 ⟨A5, c5, rfl, hown5, hb5⟩
          go_wp2
          go_ret2
          exact ⟨A5, c5, rfl, own_mono hown5 (bal hB4 _).size, btr (bal hB4 _) hb5⟩
        · have HE1 := Lib.hid (show longL l [s] = E by rw [← HE.out, onL, hok, if_neg (by simp), if_neg HL0.out, hnr, if_neg (by simp), if_neg hk4])
          have hk4' : (lastK l == 4) = false := by simp [hk4]
          clear hk4 HE
          go_wp2_with fail
          refine (longer_any _ _ _ _ _ _ l [s] E _ (by omega) (by omega) (hs2.below (bal (Below.refl _ _) _)) (sl_newN (sgs [s]) (by simp) rfl) HE1.out).mono ?_
          rintro e w5 ⟨A5, c5, rfl, hown5, hb5⟩
          go_wp2
          go_ret2
          exact ⟨A5, c5, rfl, own_mono hown5 (bal (bal hB1 _) _).size, btr (bal (bal hB1 _) _) hb5⟩

theorem Line_any (A : Option Addr) (n c : Nat) (x y : Int) (l : List Sg) (E : List Sg × Int) (w : World) (hm : n ≤ 100000) (h : Sl w 5 A n (sgs l)) (hE : onL l ⟨2, x, y, 0, 0⟩ = E) :
    Calls Tryz.prog 208 #[.slice A n c, .int .i64 x, .int .i64 y] w fun e w' => ∃ A' c', e = .returned (.tuple #[.slice A' E.1.length c', .int .i64 E.2]) ∧
      w'.ownsRow w.heap.size 63 5 (.slice A' E.1.length c') E.1.length (sgs E.1) ∧ Below w.heap.size w w' := by
  go_enter Tryz.func208, Tryz.ntmps208
  go_wp2_with fail
  refine (on_any _ _ _ l ⟨2, x, y, 0, 0⟩ E _ hm h hE).mono ?_; rintro e w1 ⟨A1, c1, rfl, hown1, hb1⟩
  go_wp2
  go_ret2
  exact ⟨A1, c1, rfl, hown1, hb1⟩
theorem Bow_any (A : Option Addr) (n c : Nat) (cx cy x y : Int) (l : List Sg) (E : List Sg × Int) (w : World) (hm : n ≤ 100000) (h : Sl w 5 A n (sgs l)) (hE : onL l ⟨3, x, y, cx, cy⟩ = E) :
    Calls Tryz.prog 207 #[.slice A n c, .int .i64 cx, .int .i64 cy, .int .i64 x, .int .i64 y] w fun e w' => ∃ A' c', e = .returned (.tuple #[.slice A' E.1.length c', .int .i64 E.2]) ∧
      w'.ownsRow w.heap.size 63 5 (.slice A' E.1.length c') E.1.length (sgs E.1) ∧ Below w.heap.size w w' := by
  go_enter Tryz.func207, Tryz.ntmps207
  go_wp2_with fail
  refine (on_any _ _ _ l ⟨3, x, y, cx, cy⟩ E _ hm h hE).mono ?_; rintro e w1 ⟨A1, c1, rfl, hown1, hb1⟩
  go_wp2
  go_ret2
  exact ⟨A1, c1, rfl, hown1, hb1⟩

set_option maxHeartbeats 1000000 in
theorem Shut_any (A : Option Addr) (n c : Nat) (l : List Sg) (E : List Sg × Int) (w : World) (hm : n ≤ 100000) (h : Sl w 5 A n (sgs l)) (hE : shutL l = E) :
    Calls Tryz.prog 209 #[.slice A n c] w fun e w' => ∃ A' c', e = .returned (.tuple #[.slice A' E.1.length c', .int .i64 E.2]) ∧
      w'.ownsRow w.heap.size 63 5 (.slice A' E.1.length c') E.1.length (sgs E.1) ∧ Below w.heap.size w w' := by
  have hl := h.sglen
  have HE := Lib.hid hE
  clear hE
  go_enter Tryz.func209, Tryz.ntmps209
  go_wp2_with fail
  refine (path_May_any _ _ _ l _ (by omega) h).mono ?_; rintro e w1 ⟨rfl, hb1⟩
  have hs1 := h.below hb1
  cases hok : mayB l
  · have HE1 := Lib.hid (show E = ([], 1) by rw [← HE.out, shutL, hok]; rfl)
    clear HE
    go_wp2
    go_ret2
    rw [HE1.out]
    exact ⟨none, 0, rfl, own_nil, hb1⟩
  · by_cases h0 : n = 0
    · have hl0 := List.length_eq_zero_iff.1 (hl.trans h0)
      have HE1 := Lib.hid (show longL l [] = E by rw [← HE.out, shutL, hok, if_neg (by simp), if_pos (.inl hl0)])
      clear HE hl0
      subst h0
      go_wp2_with fail
      refine (longer_any _ _ _ _ _ _ l [] E _ (by omega) (by omega) hs1 (show Sl w1 5 none 0 (sgs []) from Sl.nil_) HE1.out).mono ?_
      rintro e w4 ⟨A4, c4, rfl, hown4, hb4⟩
      go_wp2
      go_ret2
      exact ⟨A4, c4, rfl, own_mono hown4 hb1.size, btr hb1 hb4⟩
    · have hl0 : l ≠ [] := fun e => h0 (by rw [← hl, e]; rfl)
      have hn0 : ((n : Int) == 0) = false := by simp; omega
      have hn1 : (n == 0) = false := by simp; omega
      have HL0 := Lib.hid hl0
      clear hl0 h0
      go_wp2_with fail
      refine (last_any _ _ _ l _ (by omega) hs1).mono ?_; rintro e w3 ⟨rfl, rfl⟩
      by_cases hk4 : lastK l = 4
      · have HE1 := Lib.hid (show longL l [] = E by rw [← HE.out, shutL, hok, if_neg (by simp), if_pos (.inr hk4)])
        have hk4' : (lastK l == 4) = true := by simp [hk4]
        clear hk4 HE
        go_wp2_with fail
        refine (longer_any _ _ _ _ _ _ l [] E _ (by omega) (by omega) hs1 (show Sl w1 5 none 0 (sgs []) from Sl.nil_) HE1.out).mono ?_
        rintro e w4 ⟨A4, c4, rfl, hown4, hb4⟩
        go_wp2
        go_ret2
        exact ⟨A4, c4, rfl, own_mono hown4 hb1.size, btr hb1 hb4⟩
      · have HE1 := Lib.hid (show longL l [⟨4, 0, 0, 0, 0⟩] = E by rw [← HE.out, shutL, hok, if_neg (by simp), if_neg (by simp [hk4, HL0.out])])
        have hk4' : (lastK l == 4) = false := by simp [hk4]
        clear hk4 HE
        go_wp2_with fail
        refine (longer_any _ _ _ _ _ _ l [⟨4, 0, 0, 0, 0⟩] E _ (by omega) (by omega) (hs1.below (bal (Below.refl _ _) _)) (sl_newN (sgc ⟨4, 0, 0, 0, 0⟩) (by simp) rfl) HE1.out).mono ?_
        rintro e w4 ⟨A4, c4, rfl, hown4, hb4⟩
        go_wp2
        go_ret2
        exact ⟨A4, c4, rfl, own_mono hown4 (bal hb1 _).size, btr (bal hb1 _) hb4⟩

set_option maxHeartbeats 1000000 in
theorem Join_any (A B : Option Addr) (n c m d : Nat) (l k : List Sg) (E : List Sg × Int) (w : World) (hm : n ≤ 100000) (hm2 : m ≤ 100000) (hnc : n ≤ c) (h : Sl w 5 A n (sgs l)) (h2 : Sl w 5 B m (sgs k)) (hE : joinL l k = E) :
    Calls Tryz.prog 96 #[.slice A n c, .slice B m d] w fun e w' => ∃ A' c', e = .returned (.tuple #[.slice A' E.1.length c', .int .i64 E.2]) ∧
      w'.ownsRow w.heap.size 63 5 (.slice A' E.1.length c') E.1.length (sgs E.1) ∧ Below w.heap.size w w' := by
  have hl := h.sglen
  have hk := h2.sglen
  have HE := Lib.hid hE
  clear hE
  go_enter Tryz.func96, Tryz.ntmps96
  go_wp2_with fail
  refine (path_May_any _ _ _ l _ (by omega) h).mono ?_; rintro e w1 ⟨rfl, hb1⟩
  have hs1 := h.below hb1
  have ht1 := h2.below hb1
  cases hok : mayB l
  · have HE1 := Lib.hid (show E = ([], 1) by rw [← HE.out, joinL, if_pos (.inl hok)])
    clear HE
    go_wp2
    go_ret2
    rw [HE1.out]
    exact ⟨none, 0, rfl, own_nil, hb1⟩
  · go_wp2_with fail
    refine (path_May_any _ _ _ k _ (by omega) ht1).mono ?_; rintro e w2 ⟨rfl, hb2⟩
    have hs2 := hs1.below hb2
    have ht2 := ht1.below hb2
    have hB2 := btr hb1 hb2
    clear h h2 hs1 ht1
    cases hok2 : mayB k
    · have HE1 := Lib.hid (show E = ([], 1) by rw [← HE.out, joinL, if_pos (.inr hok2)])
      clear HE
      go_wp2
      go_ret2
      rw [HE1.out]
      exact ⟨none, 0, rfl, own_nil, hB2⟩
    · go_wp2_with fail
      refine (last_any _ _ _ l _ (by omega) hs2).mono ?_; rintro e w3 ⟨rfl, rfl⟩
      have hnn : ¬ (mayB l = false ∨ mayB k = false) := by simp [hok, hok2]
      have HJ := Lib.hid (show longL (if lastK l = 1 ∧ k ≠ [] then l.dropLast else l) k = E by rw [← HE.out]; unfold joinL; rw [if_neg hnn])
      clear hnn
      clear HE hok hok2
      by_cases hk1 : lastK l = 1
      · have hn1 : 1 ≤ n := by
          apply Classical.byContradiction; intro h0
          rw [List.length_eq_zero_iff.1 (show l.length = 0 by omega)] at hk1; cases hk1
        have hk1' : (lastK l == 1) = true := by simp [hk1]
        by_cases h0 : m = 0
        · have hl0 := List.length_eq_zero_iff.1 (hk.trans h0)
          have HE1 := Lib.hid (show longL l k = E by rw [← HJ.out, if_neg (by simp [hl0])])
          clear hk1 HJ hl0
          subst h0
          go_wp2_with fail
          refine (longer_any _ _ _ _ _ _ l k E _ (by omega) (by omega) hs2 ht2 HE1.out).mono ?_
          rintro e w4 ⟨A4, c4, rfl, hown4, hb4⟩
          go_wp2
          go_ret2
          exact ⟨A4, c4, rfl, own_mono hown4 hB2.size, btr hB2 hb4⟩
        · have hl0 : k ≠ [] := fun e => h0 (by rw [← hk, e]; rfl)
          have HE1 := Lib.hid (show longL l.dropLast k = E by rw [← HJ.out, if_pos ⟨hk1, hl0⟩])
          have hd : decide (0 < (m : Int)) = true := by simp; omega
          have hd2 : decide (0 < m) = true := by simp; omega
          clear hk1 HJ hl0
          go_wp2_with fail
          refine (longer_any _ _ _ _ _ _ l.dropLast k E _ (by omega) (by omega) hs2.front ht2 HE1.out).mono ?_
          rintro e w4 ⟨A4, c4, rfl, hown4, hb4⟩
          go_wp2
          go_ret2
          exact ⟨A4, c4, rfl, own_mono hown4 hB2.size, btr hB2 hb4⟩
      · have HE1 := Lib.hid (show longL l k = E by rw [← HJ.out, if_neg (by simp [hk1])])
        have hk1' : (lastK l == 1) = false := by simp [hk1]
        clear hk1 HJ
        go_wp2_with fail
        refine (longer_any _ _ _ _ _ _ l k E _ (by omega) (by omega) hs2 ht2 HE1.out).mono ?_
        rintro e w4 ⟨A4, c4, rfl, hown4, hb4⟩
        go_wp2
        go_ret2
        exact ⟨A4, c4, rfl, own_mono hown4 hB2.size, btr hB2 hb4⟩

end Go.Proofs.YtdfkbbcoolgfiaaGreat
