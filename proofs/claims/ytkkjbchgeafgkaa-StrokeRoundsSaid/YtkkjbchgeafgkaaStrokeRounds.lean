/- The walk of StrokeRounds: it returns true. -/
import Derived.Test.YtkkjbchgeafgkaaStrokeWithin
import Derived.Test.YtkkjbchgeafgkaaLoop
namespace Go.Proofs.Ytkkjbchgeafgkaa
open Go.RowKit Go.BigFrame

theorem openQ_succ (Q : Nat → Int × Int) (n : Nat) : openQ Q (n + 1) = openQ Q n ++ [lineQ (Q (n + 1))] := by
  unfold openQ
  rw [List.range_succ, List.map_append, List.map_singleton, List.cons_append]
theorem loopQ_get (Q : Nat → Int × Int) (n : Nat) (j : Nat) (hj : j ≤ n) (h : j < (loopQ Q n).length) : (loopQ Q n)[j].x = (Q j).1 ∧ (loopQ Q n)[j].y = (Q j).2 := by
  cases j with
  | zero => exact ⟨rfl, rfl⟩
  | succ j =>
    have h3 : (loopQ Q n)[j + 1]? = some (lineQ (Q (j + 1))) := by
      unfold loopQ openQ
      rw [List.cons_append, List.getElem?_cons_succ, List.getElem?_append_left (by simp; omega), List.getElem?_map, List.getElem?_range (by omega)]
      rfl
    have h4 : (loopQ Q n)[j + 1] = lineQ (Q (j + 1)) := by
      rw [List.getElem?_eq_getElem h] at h3; injection h3
    rw [h4]; exact ⟨rfl, rfl⟩
theorem loopQ_len (Q : Nat → Int × Int) (n : Nat) : (loopQ Q n).length = n + 2 := by unfold loopQ; rw [List.length_append, openQ_len]; rfl
theorem SmallQ.rot {Q : Nat → Int × Int} {n : Nat} (h : SmallQ Q n) (b : Nat) : SmallQ (rotQ Q n b) n := fun i _ => h _ (by have := Nat.mod_lt (b + i) (show 0 < n + 1 by omega); omega)
theorem sq_max (a : Int) : max a (-a) * max a (-a) = a * a := by
  rcases Int.le_total a (-a) with h | h
  · rw [Int.max_eq_right h, Int.neg_mul_neg]
  · rw [Int.max_eq_left h]
theorem rounds_is {a b wd cp u v dx dy : Int} (hx : dx = max (u - a) (a - u)) (hy : dy = max (v - b) (b - v)) :
    ((cp = 1 ∧ DiscP a b wd u v) ∨ (cp = 2 ∧ SquareP a b wd u v)) ↔ ((cp = 1 ∧ 4 * (dx * dx + dy * dy) ≤ wd * wd) ∨ (cp = 2 ∧ 2 * dx ≤ wd ∧ 2 * dy ≤ wd)) := by
  have h1 : dx * dx = (u - a) * (u - a) := by rw [hx, show a - u = -(u - a) by omega]; exact sq_max _
  have h2 : dy * dy = (v - b) * (v - b) := by rw [hy, show b - v = -(v - b) by omega]; exact sq_max _
  unfold DiscP SquareP
  rw [h1, h2]
  constructor
  · rintro (h | ⟨h, h3, h4⟩)
    · exact .inl h
    · exact .inr ⟨h, by omega, by omega⟩
  · rintro (h | ⟨h, h3, h4⟩)
    · exact .inl h
    · exact .inr ⟨h, by omega, by omega⟩
theorem sq_in {a : Int} (h : -9000 ≤ a ∧ a ≤ 9000) : 0 ≤ a * a ∧ a * a ≤ 81000000 := by
  have h1 : 0 ≤ a * a := by
    rcases Int.le_total 0 a with h0 | h0
    · exact Int.mul_nonneg h0 h0
    · exact Int.mul_nonneg_of_nonpos_of_nonpos h0 h0
  have h2 : 0 ≤ (9000 - a) * (9000 + a) := Int.mul_nonneg (by omega) (by omega)
  have e : (9000 - a) * (9000 + a) = 81000000 - a * a := by grind
  omega
theorem max_sq {a b dx : Int} (h : dx = max (a - b) (b - a)) : dx * dx = (a - b) * (a - b) := by
  rcases Int.le_total (a - b) (b - a) with h1 | h1
  · rw [Int.max_eq_right h1] at h; subst h; grind
  · rw [Int.max_eq_left h1] at h; subst h; rfl
/-- What a dot covers, by the distances across and up. -/
theorem dot_say {a b : Int} (ha : co a = true) (hb : co b = true) (wd cp jn x y dx dy : Int) (hx : dx = max (x - a) (a - x)) (hy : dy = max (y - b) (b - y)) :
    covL (dotL a b) ⟨wd, cp, jn⟩ x y = true ↔ (cp = 1 ∧ 4 * (dx * dx + dy * dy) ≤ wd * wd) ∨ (cp = 2 ∧ 2 * dx ≤ wd ∧ 2 * dy ≤ wd) := by
  rw [dot_cov ha hb, max_sq hx, max_sq hy]
  have e : ∀ p q : Int, max (2 * (p - q)) (-2 * (p - q)) = 2 * max (p - q) (q - p) := by intro p q; omega
  unfold DiscP SquareP
  rw [e, e, ← hx, ← hy]
theorem idx3 (a b c : Value) (w : World) : (Instr.index 43 (.agg #[a, b, c]) (.int .i64 0)).run Try.prog w = .ok a w ∧ (Instr.index 43 (.agg #[a, b, c]) (.int .i64 1)).run Try.prog w = .ok b w ∧ (Instr.index 43 (.agg #[a, b, c]) (.int .i64 2)).run Try.prog w = .ok c w := ⟨by kernel_rfl, by kernel_rfl, by kernel_rfl⟩
theorem keepL {W w' : World} {g bl o : Nat} {a b c x y : Value} (hb : Below W.heap.size W w') (hg : g < W.heap.size) (hl : bl < W.heap.size)
    (h : W.cell? ⟨g, 0, none⟩ = some a ∧ W.cell? ⟨g, 1, none⟩ = some b ∧ W.cell? ⟨g, 2, none⟩ = some c ∧ W.cell? ⟨bl, o + 1, none⟩ = some x ∧ W.cell? ⟨bl, o + 2, none⟩ = some y) :
    w'.cell? ⟨g, 0, none⟩ = some a ∧ w'.cell? ⟨g, 1, none⟩ = some b ∧ w'.cell? ⟨g, 2, none⟩ = some c ∧ w'.cell? ⟨bl, o + 1, none⟩ = some x ∧ w'.cell? ⟨bl, o + 2, none⟩ = some y := by
  obtain ⟨h0, h1, h2, h3, h4⟩ := h
  exact ⟨(later_cell hb hg).trans h0, (later_cell hb hg).trans h1, (later_cell hb hg).trans h2, (later_cell hb hl).trans h3, (later_cell hb hl).trans h4⟩
theorem keepS {W w' : World} {g : Nat} {a b c : Value} (hb : Below W.heap.size W w') (hg : g < W.heap.size)
    (h : W.cell? ⟨g, 0, none⟩ = some a ∧ W.cell? ⟨g, 1, none⟩ = some b ∧ W.cell? ⟨g, 2, none⟩ = some c) :
    w'.cell? ⟨g, 0, none⟩ = some a ∧ w'.cell? ⟨g, 1, none⟩ = some b ∧ w'.cell? ⟨g, 2, none⟩ = some c := by
  obtain ⟨h0, h1, h2⟩ := h
  exact ⟨(later_cell hb hg).trans h0, (later_cell hb hg).trans h1, (later_cell hb hg).trans h2⟩
theorem keepP {W w' : World} {bl o : Nat} {x y : Value} (hb : Below W.heap.size W w') (hl : bl < W.heap.size)
    (h : W.cell? ⟨bl, o + 1, none⟩ = some x ∧ W.cell? ⟨bl, o + 2, none⟩ = some y) : w'.cell? ⟨bl, o + 1, none⟩ = some x ∧ w'.cell? ⟨bl, o + 2, none⟩ = some y := by
  obtain ⟨h0, h1⟩ := h
  exact ⟨(later_cell hb hl).trans h0, (later_cell hb hl).trans h1⟩

set_option maxRecDepth 100000 in
set_option maxHeartbeats 4000000 in
theorem StrokeRounds_any (A : Option Addr) (n c : Nat) (by_ v x y : Int) (w : World) (h : InA w A n) (hnc : n ≤ c) (hcm : c ≤ 9223372036854775807) :
    Calls Try.prog 4 #[.slice A n c, .int .i64 by_, .int .i64 v, .int .i64 x, .int .i64 y] w fun e w' => e = .returned (.bool true) ∧ Below w.heap.size w w' := by
  go_enter Try.func4, Try.ntmps4
  go_wp2_with fail
  refine (known33_any _).mono ?_; rintro e w1 ⟨rfl, hb1⟩
  go_wp2_with fail
  refine (Loop_any A n c w1 (h.below hb1) hnc hcm).mono ?_; rintro e w2 ⟨Q, k, A2, c2, rfl, hown2, hk8, hQ, hb2⟩
  have B2 : Below w.heap.size w w2 := btr hb1 hb2
  have hp2 := own_sl hown2
  clear hb1 hb2 hown2
  have HQ := Lib.hid hQ
  clear hQ
  go_wp2_with fail
  refine (Style_any v _).mono ?_; rintro e w4 ⟨rfl, hb4⟩
  have B4 := btr B2 hb4
  have hp4 := hp2.below hb4
  have hso := styI_ok v
  clear hb4 hp2 B2
  obtain ⟨s, hs⟩ : ∃ s, s = styI v := ⟨_, rfl⟩
  rw [← hs] at hso ⊢
  clear hs
  obtain ⟨wd, cp, jn⟩ := s
  simp only at hso
  simp only [syc]
  obtain ⟨v1, v2, v3, v4, v5, v6⟩ := hso
  go_wp2_with fail
  obtain ⟨w5, hw5⟩ : ∃ w5 : World, w5 = w4.alloc (.cells #[.int .i64 wd, .int .i64 cp, .int .i64 jn] 27) := ⟨_, rfl⟩
  rw [← hw5]
  have hst : StIn w5 w4.heap.size wd cp jn := by rw [hw5]; exact StIn.new _ _ _
  have hb45 : Below w4.heap.size w4 w5 := by rw [hw5]; exact bal (Below.refl _ _) _
  have B5 := btr B4 hb45
  have hp5 := hp4.below hb45
  clear hw5 hb45 hp4 B4
  rw [show (k : Int) + 2 - 1 = (k : Int) + 1 by omega]
  refine (Place_big2 by_ ((k : Int) + 1) _ (by omega) (by omega)).mono ?_; rintro e w6 ⟨rfl, rfl⟩
  obtain ⟨b, hb⟩ : ∃ b : Nat, placeI by_ ((k : Int) + 1) = (b : Int) := ⟨(placeI by_ ((k : Int) + 1)).toNat, by unfold placeI; have := Int.emod_nonneg by_ (show (k : Int) + 1 ≠ 0 by omega); omega⟩
  have hbk : b ≤ k := by unfold placeI at hb; have := Int.emod_lt_of_pos by_ (show (0 : Int) < (k : Int) + 1 by omega); omega
  rw [hb]
  clear hb
  have hlq := loopQ_len Q k
  obtain ⟨bl, ol, hA, hbl, e0, e1, e2, e3, e4⟩ := hp5.sg b (by omega) (by rw [hlq]; omega)
  obtain rfl := hA
  obtain ⟨gx, gy⟩ := loopQ_get Q k b hbk (by rw [hlq]; omega)
  rw [gx] at e1
  rw [gy] at e2
  have HLQ := Lib.hid hlq
  clear gx gy e0 e3 e4 hlq
  go_wp2
  go_region
  go_wp2
  obtain ⟨w7, hw7⟩ : ∃ w7 : World, w7 = (w5.alloc (.cells #[.int .i64 1, .int .i64 (Q b).1, .int .i64 (Q b).2, .int .i64 0, .int .i64 0] 37)).drew := ⟨_, rfl⟩
  rw [← hw7]
  have hb57 : Below w5.heap.size w5 w7 := by rw [hw7]; exact bdrew (bal (Below.refl _ _) _)
  have own7 : w7.ownsRow w5.heap.size 37 5 (.slice (some ⟨w5.heap.size, 0, none⟩) 1 1) 1 (sgs (openQ (rotQ Q k b) 0)) := by
    rw [hw7]
    have h1 : sgs (openQ (rotQ Q k b) 0) = [.int .i64 1, .int .i64 (Q b).1, .int .i64 (Q b).2, .int .i64 0, .int .i64 0] := by
      have : rotQ Q k b 0 = Q b := by unfold rotQ; rw [Nat.add_zero, Nat.mod_eq_of_lt (by omega)]
      simp [openQ, sgs, sgc, this]
    rw [h1]
    exact own_below (own_new _ rfl rfl (Nat.le_refl _) (by omega)) (bdrew (Below.refl _ _))
  clear hw7 e1 e2
  go_loopw [15, 16] (fun t i wr => ∃ (j : Nat) (A' : Option Addr) (c' : Nat), j ≤ k ∧ t = .slice A' (j + 1) c' ∧ i = .int .i64 ((j : Int) + 1) ∧ wr.ownsRow w5.heap.size 37 5 (.slice A' (j + 1) c') (j + 1) (sgs (openQ (rotQ Q k b) j)) ∧ Below w5.heap.size w5 wr) (fun _ i _ => k + 1 - (intOf i).toNat)
  case atStart => exact ⟨0, _, 1, by omega, rfl, by simp, own7, hb57⟩
  case round =>
    obtain ⟨j, A1, c1, hjk, rfl, rfl, hown, hbr⟩ := hrel
    by_cases hlt : j < k
    · obtain ⟨q, hq⟩ : ∃ q : Nat, q = (b + (j + 1)) % (k + 1) := ⟨_, rfl⟩
      have hqk : q ≤ k := by rw [hq]; have := Nat.mod_lt (b + (j + 1)) (show 0 < k + 1 by omega); omega
      have htm : ((b : Int) + ((j : Int) + 1)).tmod ((k : Int) + 1) = (q : Int) := by
        rw [hq, Int.tmod_eq_emod_of_nonneg (by omega)]; simp
      have htn : ((b : Int) + ((j : Int) + 1)) % ((k : Int) + 1) = (q : Int) := by rw [hq]; simp
      have hwr : IntKind.i64.wrap ((b : Int) + ((j : Int) + 1)) = (b : Int) + ((j : Int) + 1) := IntWalk.i64_in _ (by omega)
      have hq2 : (q : Int) < (k : Int) + 2 := by omega
      have hkz : ¬ ((k : Int) + 1 = 0) := by omega
      have hkz2 : ((k : Int) + 1 == 0) = false := by simp; omega
      have hrq : rotQ Q k b (j + 1) = Q q := by rw [hq]; rfl
      obtain ⟨bl', ol', hA, _, e0, e1, e2, e3, e4⟩ := (hp5.below hbr).sg q (by omega) (by rw [HLQ.out]; omega)
      injection hA with hA; injection hA with hA1 hA2
      subst hA1; subst hA2
      obtain ⟨gx, gy⟩ := loopQ_get Q k q hqk (by rw [HLQ.out]; omega)
      rw [gx] at e1
      rw [gy] at e2
      have hlt' : bl < wr.heap.size := Nat.lt_of_lt_of_le hbl hbr.size
      have HQ1 := Lib.hid hq
      have HRQ := Lib.hid hrq
      have hsz5 := hbr.size
      clear gx gy e0 e3 e4 hq hrq
      generalize Q q = qq at *
      obtain ⟨qx, qy⟩ := qq
      simp only at e1 e2
      go_wp2
      go_region_law ((refine step_app (by rfl) _ _ 24 (by rfl) w5.heap.size sgT0 (by rfl) (own_below hown (by repeat (first | with_reducible exact Below.refl _ _ | with_reducible refine bal ?_ _ | with_reducible refine bdrew ?_))) (sgc ⟨2, qx, qy, 0, 0⟩) (by rfl) (sl_newN _ (by simp) rfl) (oneCell_sgc _) (by omega) (by simp; omega) ?_; intro A7 c7 w8 hown7 hg7 hat7))
      all_goals
        go_wp2
        go_roundw
        case rel => exact ⟨j + 1, A7, c7, by omega, rfl, by go_num, by rw [openQ_succ, sgs_app, sgs_one, HRQ.out]; exact hown7, grown_below (by repeat (first | with_reducible exact hbr | with_reducible refine bal ?_ _ | with_reducible refine bdrew ?_)) hg7 (own_below hown (by repeat (first | with_reducible exact Below.refl _ _ | with_reducible refine bal ?_ _ | with_reducible refine bdrew ?_)))⟩
        case measure => simp [intOf]; omega
    · obtain rfl : j = k := by omega
      have hsz5 := hbr.size
      go_wp2_with (at_builtin; refine wpList_app rfl _ _ 24 rfl w5.heap.size sgT0 rfl (own_below hown (bal (Below.refl _ _) _)) (sgc ⟨4, 0, 0, 0, 0⟩) rfl (sl_newN _ (by simp) rfl) (oneCell_sgc _) (by omega) (by simp; omega) ?_; intro A7 c7 w8 hown7 hg7 hat7)
      obtain ⟨R, hR⟩ : ∃ R, R = rotQ Q j b := ⟨_, rfl⟩
      have hT : Sl w8 5 A7 (j + 2) (sgs (loopQ R j)) := by
        have := own_sl hown7
        rw [hR]; unfold loopQ
        rw [sgs_app, sgs_one]; exact this
      have B8 : Below w5.heap.size w5 w8 := grown_below (bal hbr _) hg7 (own_below hown (bal (Below.refl _ _) _))
      have hst8 := hst.below B8
      have hp8 := hp5.below B8
      have BW := btr B5 B8
      have hon := (HQ.out).onq
      have hRon : OnQ R j := by rw [hR]; exact rot_on hon b
      obtain ⟨u, hu⟩ : ∃ u, pntI x = u := ⟨_, rfl⟩
      obtain ⟨v', hv'⟩ : ∃ u, pntI y = u := ⟨_, rfl⟩
      have hub := pntI_ok x
      have hvb := pntI_ok y
      rw [hu] at hub
      rw [hv'] at hvb
      have hq0 := HQ.out 0 (by omega)
      obtain ⟨x0, hx0⟩ : ∃ x0, x0 = (Q 0).1 := ⟨_, rfl⟩
      obtain ⟨y0, hy0⟩ : ∃ y0, y0 = (Q 0).2 := ⟨_, rfl⟩
      rw [← hx0, ← hy0] at hq0
      obtain ⟨bl', ol', hA, _, e0, e1, e2, e3, e4⟩ := hp8.sg 0 (by omega) (by rw [HLQ.out]; omega)
      injection hA with hA; injection hA with hA1 hA2
      subst hA1; subst hA2
      obtain ⟨gx, gy⟩ := loopQ_get Q j 0 (by omega) (by rw [HLQ.out]; omega)
      rw [gx, ← hx0] at e1
      rw [gy, ← hy0] at e2
      have f1 : w8.cell? ⟨bl, ol + 1, none⟩ = some (.int .i64 x0) := by simpa using e1
      have f2 : w8.cell? ⟨bl, ol + 2, none⟩ = some (.int .i64 y0) := by simpa using e2
      have hbl8 : bl < w8.heap.size := Nat.lt_of_lt_of_le hbl B8.size
      obtain ⟨dt, hdt⟩ : ∃ dt, dt = covL (dotL x0 y0) ⟨wd, cp, jn⟩ u v' := ⟨_, rfl⟩
      obtain ⟨r, hr⟩ : ∃ r, r = covL (loopQ Q j) ⟨wd, cp, jn⟩ u v' := ⟨_, rfl⟩
      have c0x : co x0 = true := co_iff.2 (by omega)
      have c0y : co y0 = true := co_iff.2 (by omega)
      have V1 := Lib.hid (show inL (dotL x0 y0) ⟨wd, cp, jn⟩ u v' = dt by
        rw [hdt]; exact inL_made (by rw [dotL_is]; exact loopQ_may (n := 0) (fun _ _ => ⟨c0x, c0y⟩) (by omega)) (by rw [dotL_is]; exact loopQ_nobow _ _) (by simp only; omega) (by simp only; omega) (by simp only; omega) (by omega) (by omega))
      have V2 := Lib.hid (show inL (loopQ Q j) ⟨wd, cp, jn⟩ u v' = r by
        rw [hr]; exact inL_made (loopQ_may hon (by omega)) (loopQ_nobow _ _) (by simp only; omega) (by simp only; omega) (by simp only; omega) (by omega) (by omega))
      have V3 := Lib.hid (show inL (loopQ R j) ⟨wd, cp, jn⟩ u v' = r by
        rw [hr, ← rot_cov hon (by omega) b, ← hR]; exact inL_made (loopQ_may hRon (by omega)) (loopQ_nobow _ _) (by simp only; omega) (by simp only; omega) (by simp only; omega) (by omega) (by omega))
      have VD := Lib.hid (dot_cov c0x c0y ⟨wd, cp, jn⟩ u v')
      have HDT := Lib.hid hdt
      clear hr hdt hon hRon c0x c0y e0 e3 e4 e1 e2 gx gy hR hown7 hg7 hat7 hx0 hy0 hown hbr hb57 own7
      have s0 := hst8.c0
      have s1 := hst8.c1
      have s2 := hst8.c2
      have hlt8 := hst8.lt
      refine (point_any x _).mono ?_; rintro e w9 ⟨rfl, rfl⟩
      rw [hu]
      go_wp2_with fail
      refine (point_any y _).mono ?_; rintro e w9 ⟨rfl, rfl⟩
      rw [hv']
      clear hu hv'
      go_wp2_with fail
      have hi0 : (0 : Int) < (j : Int) + 2 := by omega
      have hS0 := And.intro s0 (And.intro s1 (And.intro s2 (And.intro f1 f2)))
      have HSL : Sl (w8.alloc (.cells #[.int .i64 1, .int .i64 x0, .int .i64 y0, .int .i64 0, .int .i64 0, .int .i64 4, .int .i64 0, .int .i64 0, .int .i64 0, .int .i64 0] 37)).drew 5 (some ⟨w8.heap.size, 0, none⟩) 2 (sgs (dotL x0 y0)) := (sl_newN (sgs (dotL x0 y0)) rfl rfl).drew
      go_region_held3 (fun w' => w'.cell? ⟨w4.heap.size, 0, none⟩ = some (.int .i64 wd) ∧ w'.cell? ⟨w4.heap.size, 1, none⟩ = some (.int .i64 cp) ∧ w'.cell? ⟨w4.heap.size, 2, none⟩ = some (.int .i64 jn) ∧ w'.cell? ⟨bl, ol + 1, none⟩ = some (.int .i64 x0) ∧ w'.cell? ⟨bl, ol + 2, none⟩ = some (.int .i64 y0))
        (first | with_reducible exact keepL (W := w8) (by assumption) hlt8 hbl8 hS0 | go_keep)
        (first
          | (go_at_call 9; with_reducible refine (In_st (l := dotL x0 y0) _ V1.out (by omega) HSL).mono ?_; rintro e w' ⟨rfl, hbD⟩; have hbA : Below w8.heap.size w8 w' := btr (by repeat (first | with_reducible exact Below.refl _ _ | with_reducible refine bdrew ?_ | with_reducible refine bal ?_ _)) hbD)
          | fail)
      have f1' := (later_cell hbA hbl8).trans f1
      have f2' := (later_cell hbA hbl8).trans f2
      have s0' := (later_cell hbA hlt8).trans s0
      have s1' := (later_cell hbA hlt8).trans s1
      have s2' := (later_cell hbA hlt8).trans s2
      clear hS0 f1 f2 s0 s1 s2 HSL hbD
      go_wp2_with fail
      go_quiet (fail)
      obtain ⟨dx, hdx1⟩ : ∃ dx, (if u - x0 < x0 - u then x0 - u else u - x0) = dx := ⟨_, rfl⟩
      obtain ⟨dy, hdy1⟩ : ∃ dy, (if v' - y0 < y0 - v' then y0 - v' else v' - y0) = dy := ⟨_, rfl⟩
      have hdx : dx = max (u - x0) (x0 - u) := by rw [← hdx1]; split <;> omega
      have hdy : dy = max (v' - y0) (y0 - v') := by rw [← hdy1]; split <;> omega
      rw [hdx1, hdy1]
      clear hdx1 hdy1 f1' f2' s0' s1' s2'
      have hbc : Below w8.heap.size w8 (w'.drewN nq) := bdrewN hbA _
      generalize w'.drewN nq = wc at *
      have hsc := keepS hbc hlt8 ⟨hst8.c0, hst8.c1, hst8.c2⟩
      obtain ⟨s0, s1, s2⟩ := hsc
      have hltc : w4.heap.size < wc.heap.size := Nat.lt_of_lt_of_le hlt8 hbc.size
      have hpl := hp8.below hbc
      have hTl : Sl wc 5 A7 (j + 1 + 1) (sgs (loopQ R j)) := hT.below hbc
      have BC := btr BW hbc
      have hd1 : 0 ≤ dx ∧ dx ≤ 9000 := by omega
      have hd2 : 0 ≤ dy ∧ dy ≤ 9000 := by omega
      have q1 := sq_in (a := dx) (by omega)
      have q2 := sq_in (a := dy) (by omega)
      have q3 := sq_in (a := wd) (by omega)
      have HD := Lib.hid (show dt = true ↔ (cp = 1 ∧ 4 * (dx * dx + dy * dy) ≤ wd * wd) ∨ (cp = 2 ∧ 2 * dx ≤ wd ∧ 2 * dy ≤ wd) by rw [HDT.out]; exact dot_say (co_iff.2 (by omega)) (co_iff.2 (by omega)) wd cp jn u v' dx dy hdx hdy)
      have r1 := IntWalk.wrap64_in (dx * dx) (by omega)
      have r2 := IntWalk.wrap64_in (dy * dy) (by omega)
      have r3 := IntWalk.wrap64_in (dx * dx + dy * dy) (by omega)
      have r4 := IntWalk.wrap64_in (4 * (dx * dx + dy * dy)) (by omega)
      have r5 := IntWalk.wrap64_in (wd * wd) (by omega)
      have HMV : ∀ W : World, Sl (W.alloc (.cells #[.int .i64 1, .int .i64 u, .int .i64 v', .int .i64 0, .int .i64 0] 37)) 5 (some ⟨W.heap.size, 0, none⟩) 1 (sgs [⟨1, u, v', 0, 0⟩]) := fun W => sl_newN (w := W) (t := 37) (n := 1) (s := 5) (sgs [⟨1, u, v', 0, 0⟩]) rfl rfl
      have V4 := Lib.hid (show inL [⟨1, u, v', 0, 0⟩] ⟨wd, cp, jn⟩ u v' = false from move_none _ _ _)
      clear hdx hdy q1 q2 q3 VD hpl
      have hpl := hp8.below hbc
      go_upto_region 15 with (fail)
      go_cut [22] (fun s22 wx => s22 = .bool dt ∧ wx = wc)
      case first =>
        have hcp : cp = 0 ∨ cp = 1 ∨ cp = 2 := by omega
        rcases hcp with rfl | rfl | rfl
        · have hi := fun a b c w => (idx3 a b c w).1
          go_wp2
          all_goals
            go_meet
            refine ⟨congrArg Value.bool (Bool.eq_iff_iff.2 ?_), rfl⟩
            rw [HD.out]; simp
        · have hi := fun a b c w => (idx3 a b c w).2.1
          go_wp2
          all_goals
            go_meet
            refine ⟨congrArg Value.bool (Bool.eq_iff_iff.2 ?_), rfl⟩
            rw [HD.out]; simp
        · have hi := fun a b c w => (idx3 a b c w).2.2
          go_wp2
          all_goals
            go_meet
            refine ⟨congrArg Value.bool (Bool.eq_iff_iff.2 ?_), rfl⟩
            rw [HD.out]; simp; try omega
      case rest =>
        obtain ⟨rfl, rfl⟩ := hcut
        have hrr : (r == r) = true := by simp
        have hdd : (dt == dt) = true := by simp
        have hsc : wc.drew.cell? ⟨w4.heap.size, 0, none⟩ = some (.int .i64 wd) ∧ wc.drew.cell? ⟨w4.heap.size, 1, none⟩ = some (.int .i64 cp) ∧ wc.drew.cell? ⟨w4.heap.size, 2, none⟩ = some (.int .i64 jn) := ⟨s0, s1, s2⟩
        have hltD : w4.heap.size < wc.drew.heap.size := hltc
        have hplD : Sl wc.drew 5 (some ⟨bl, ol, none⟩) (j + 2) (sgs (loopQ Q j)) := hpl.drew
        have hTlD : Sl wc.drew 5 A7 (j + 1 + 1) (sgs (loopQ R j)) := hTl.drew
        have BCD : Below w.heap.size w wc.drew := bdrew BC
        clear r1 r2 r3 r4 r5 HD hd1 hd2 hpl hTl BC hbc HDT
        go_wp2_with fail
        go_region_held3 (fun w' => w'.cell? ⟨w4.heap.size, 0, none⟩ = some (.int .i64 wd) ∧ w'.cell? ⟨w4.heap.size, 1, none⟩ = some (.int .i64 cp) ∧ w'.cell? ⟨w4.heap.size, 2, none⟩ = some (.int .i64 jn))
          (first | with_reducible exact hsc | with_reducible exact keepS (btr (bal (btr hbE hbE2) _) hbE3) hltD hsc | with_reducible exact keepS (bal (btr hbE hbE2) _) hltD hsc | with_reducible exact keepS (btr hbE hbE2) hltD hsc | with_reducible exact keepS hbE hltD hsc | go_keep)
          (first
            | (go_at_call 9; with_reducible refine (In_st (l := loopQ Q j) _ V2.out (by omega) hplD).mono ?_; rintro e wE ⟨rfl, hbE⟩)
            | (go_at_call 9; with_reducible refine (In_st (l := loopQ Q j) _ V2.out (by omega) (hplD.below hbE)).mono ?_; rintro e wE2 ⟨rfl, hbE2⟩)
            | (go_at_call 9; with_reducible refine (In_st (l := loopQ R j) _ V3.out (by omega) hTlD).mono ?_; rintro e wE ⟨rfl, hbE⟩)
            | (go_at_call 9; with_reducible refine (In_st (l := loopQ R j) _ V3.out (by omega) (hTlD.below hbE)).mono ?_; rintro e wE2 ⟨rfl, hbE2⟩)
            | (go_at_call 9; with_reducible refine (In_st (l := [⟨1, u, v', 0, 0⟩]) _ V4.out (by omega) (HMV _)).mono ?_; rintro e wE3 ⟨rfl, hbE3⟩)
            | fail)
        all_goals
          go_wp2
          go_ret
          exact ⟨rfl, btr BCD (btr (bal (btr hbE hbE2) _) hbE3)⟩
end Go.Proofs.Ytkkjbchgeafgkaa
