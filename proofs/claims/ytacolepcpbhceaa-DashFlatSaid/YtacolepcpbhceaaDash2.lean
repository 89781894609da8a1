/- Places on a contour: way.long, way.at. -/
import Derived.Test.YtacolepcpbhceaaDash1
import Derived.Test.YtacolepcpbhceaaAllP
import Derived.Deep.RegionHeld3
import Derived.IntWalk
namespace Go.Proofs.Ytacolepcpbhceaa
open Go.RowKit

/-- A contour's pieces in memory, and where each one ends. -/
structure WayIn (w : World) (Ap Ae : Option Addr) (n : Nat) (ps : List Ed) : Prop where
  len : ps.length = n
  few : n ≤ 1000
  all : ∀ e ∈ ps, Strt e ∧ moved e = true
  p : Sl w 7 Ap n (eds ps)
  e : Sl w 1 Ae n (ints (endsL ps))
theorem WayIn.below {w w' : World} {Ap Ae : Option Addr} {n : Nat} {ps : List Ed} (h : WayIn w Ap Ae n ps) (hb : Below w.heap.size w w') : WayIn w' Ap Ae n ps := ⟨h.len, h.few, h.all, h.p.below hb, h.e.below hb⟩
theorem WayIn.endAt {w : World} {Ap Ae : Option Addr} {n : Nat} {ps : List Ed} (h : WayIn w Ap Ae n ps) (k : Nat) (hk : k < n) :
    ∃ b off : Nat, Ae = some ⟨b, off, none⟩ ∧ b < w.heap.size ∧ w.cell? ⟨b, off + k, none⟩ = some (.int .i64 (sumL (ps.take (k + 1)))) := by
  have hl : k < (endsL ps).length := by rw [endsL_len, h.len]; exact hk
  obtain ⟨b, off, e, hb, hc⟩ := h.e.intAt k hk hl
  rw [endsL_get] at hc
  exact ⟨b, off, e, hb, hc⟩
theorem WayIn.sum {w : World} {Ap Ae : Option Addr} {n : Nat} {ps : List Ed} (h : WayIn w Ap Ae n ps) (k : Nat) : 0 ≤ sumL (ps.take k) ∧ sumL (ps.take k) ≤ sumL ps ∧ sumL ps ≤ 23167000 := by
  have h1 := sumL_bd (l := ps) (fun e he => (h.all e he).1.2)
  have h2 := h.len
  have h3 := h.few
  exact ⟨sumL_nonneg _, sumL_take_le _ _, by omega⟩

set_option maxHeartbeats 400000 in
theorem way_long_any (Ap Ae : Option Addr) (n cp ce : Nat) (ps : List Ed) (w : World) (h : WayIn w Ap Ae n ps) :
    Calls Try.prog 29 #[.agg #[.slice Ap n cp, .slice Ae n ce]] w fun e w' => e = .returned (.int .i64 (sumL ps)) ∧ Below w.heap.size w w' := by
  have hf := h.few
  by_cases h0 : n = 0
  · subst h0
    have hp : ps = [] := List.eq_nil_of_length_eq_zero h.len
    subst hp
    go_enter Try.func29, Try.ntmps29
    go_wp2
    go_ret
    exact ⟨rfl, bal (Below.refl _ _) _⟩
  · obtain ⟨b, off, rfl, hb, c0⟩ := h.endAt (n - 1) (by omega)
    have ht : ps.take (n - 1 + 1) = ps := List.take_of_length_le (by rw [h.len]; omega)
    rw [ht] at c0
    have hn0 : ((n : Int) == 0) = false := by simp; omega
    have hn1 : 1 ≤ n := by omega
    clear ht
    go_enter Try.func29, Try.ntmps29
    go_wp2
    go_ret
    exact ⟨rfl, bal (Below.refl _ _) _⟩

/-- What a place's numbers are bounded by. -/
theorem at_bd {x0 x1 m k : Int} (h0 : -8191 ≤ x0 ∧ x0 ≤ 8191) (h1 : -8191 ≤ x1 ∧ x1 ≤ 8191) (hm : 1 ≤ m ∧ m ≤ 23167) (hk : 0 ≤ k ∧ k ≤ m) :
    (-190000000 ≤ x0 * m ∧ x0 * m ≤ 190000000) ∧ (-380000000 ≤ (x1 - x0) * k ∧ (x1 - x0) * k ≤ 380000000) := by
  have a := mul_bd (a := x0) (b := m) (A := 8191) (B := 23167) h0 (by omega)
  have b := mul_bd (a := x1 - x0) (b := k) (A := 16382) (B := 23167) (by omega) (by omega)
  omega

theorem keep8 {W w' : World} {g b o : Nat} {u v0 v1 v2 v3 v4 v5 v6 : Value} (hb : Below W.heap.size W w') (hg : g < W.heap.size) (hlt : b < W.heap.size)
    (h : W.cell? ⟨g, 0, none⟩ = some u ∧ W.cell? ⟨b, o, none⟩ = some v0 ∧ W.cell? ⟨b, o + 1, none⟩ = some v1 ∧ W.cell? ⟨b, o + 2, none⟩ = some v2 ∧ W.cell? ⟨b, o + 3, none⟩ = some v3 ∧ W.cell? ⟨b, o + 4, none⟩ = some v4 ∧ W.cell? ⟨b, o + 5, none⟩ = some v5 ∧ W.cell? ⟨b, o + 6, none⟩ = some v6) :
    w'.cell? ⟨g, 0, none⟩ = some u ∧ w'.cell? ⟨b, o, none⟩ = some v0 ∧ w'.cell? ⟨b, o + 1, none⟩ = some v1 ∧ w'.cell? ⟨b, o + 2, none⟩ = some v2 ∧ w'.cell? ⟨b, o + 3, none⟩ = some v3 ∧ w'.cell? ⟨b, o + 4, none⟩ = some v4 ∧ w'.cell? ⟨b, o + 5, none⟩ = some v5 ∧ w'.cell? ⟨b, o + 6, none⟩ = some v6 := by
  obtain ⟨h', h0, h1, h2, h3, h4, h5, h6⟩ := h
  exact ⟨(later_cell hb hg).trans h', (later_cell hb hlt).trans h0, (later_cell hb hlt).trans h1, (later_cell hb hlt).trans h2, (later_cell hb hlt).trans h3, (later_cell hb hlt).trans h4, (later_cell hb hlt).trans h5, (later_cell hb hlt).trans h6⟩

theorem bset7 {W w : World} {g : Nat} {v0 v1 v2 v3 v4 v5 v6 : Value} (h : Below W.heap.size W w) (hg : W.heap.size ≤ g) :
    Below W.heap.size W (((((((w.setCell ⟨g, 0, none⟩ v0).setCell ⟨g, 1, none⟩ v1).setCell ⟨g, 2, none⟩ v2).setCell ⟨g, 3, none⟩ v3).setCell ⟨g, 4, none⟩ v4).setCell ⟨g, 5, none⟩ v5).setCell ⟨g, 6, none⟩ v6) :=
  bset (bset (bset (bset (bset (bset (bset h hg _) hg _) hg _) hg _) hg _) hg _) hg _
theorem cell7 {w : World} {g : Nat} {v0 v1 v2 v3 v4 v5 v6 : Value} {u : Nat → Value} (h : ∀ j, j < 7 → w.cell? ⟨g, j, none⟩ = some (u j)) :
    ∀ j, j < 7 → (((((((w.setCell ⟨g, 0, none⟩ v0).setCell ⟨g, 1, none⟩ v1).setCell ⟨g, 2, none⟩ v2).setCell ⟨g, 3, none⟩ v3).setCell ⟨g, 4, none⟩ v4).setCell ⟨g, 5, none⟩ v5).setCell ⟨g, 6, none⟩ v6).cell? ⟨g, j, none⟩ = #[v0, v1, v2, v3, v4, v5, v6][j]? := by
  intro j hj
  have hs : ∀ (W : World) (i : Nat) (v : Value) (x : Value), W.cell? ⟨g, j, none⟩ = some x → (W.setCell ⟨g, i, none⟩ v).cell? ⟨g, j, none⟩ = some (if i = j then v else x) := by
    intro W i v x hx
    by_cases hij : i = j
    · subst hij; rw [if_pos rfl, World.cell?_setCell_same _ _ _ hx]
    · rw [if_neg hij, World.cell?_setCell_other _ _ _ _ (by intro e; injection e; omega)]; exact hx
  rw [hs _ 6 _ _ (hs _ 5 _ _ (hs _ 4 _ _ (hs _ 3 _ _ (hs _ 2 _ _ (hs _ 1 _ _ (hs _ 0 _ _ (h j hj)))))))]
  rcases j with _ | _ | _ | _ | _ | _ | _ | j
  all_goals first | rfl | omega
theorem fz_new {V V' : World} {g : Nat} {cs : Array Value} {t : TypeId} (hb : Below (V.alloc (.cells cs t)).heap.size (V.alloc (.cells cs t)) V') (hg : V.heap.size = g) (j : Nat) :
    V'.frozen? ⟨g, j, none⟩ = false ∧ V'.cell? ⟨g, j, none⟩ = cs[j]? ∧ g < V'.heap.size := by
  subst hg
  exact ⟨(later_frozen hb (by simp)).trans (frozen_of_row _ _ _ _ _ (heap_alloc_new _ _)), (later_cell hb (by simp)).trans (new_cell _ j), Nat.lt_of_lt_of_le (by simp) hb.size⟩

set_option maxRecDepth 100000 in
set_option maxHeartbeats 2000000 in
theorem way_at_any (Ap Ae : Option Addr) (n cp ce : Nat) (ps : List Ed) (s : Int) (w : World) (h : WayIn w Ap Ae n ps) (h0 : 0 < n) (hs0 : 0 ≤ s) (hs1 : s ≤ sumL ps) :
    Calls Try.prog 49 #[.agg #[.slice Ap n cp, .slice Ae n ce], .int .i64 s] w
      fun e w' => e = .returned (.tuple #[.int .i64 (atW ps s).1, .int .i64 (atW ps s).2]) ∧ Below w.heap.size w w' := by
  have hf := h.few
  have hl := h.len
  go_enter Try.func49, Try.ntmps49
  go_wp2
  go_loop [6] (fun i => ∃ k : Nat, k < n ∧ i = .int .i64 k ∧ Hid (0 < k → sumL (ps.take k) < s)) (fun i => n - (intOf i).toNat)
  case atStart => exact ⟨0, h0, rfl, fun h => absurd h (by omega)⟩
  case round =>
    obtain ⟨k, hk, rfl, hlo⟩ := hrel
    obtain ⟨b, off, rfl, hb, c0⟩ := h.endAt k hk
    have hkl : k < ps.length := by omega
    obtain ⟨t0, t1, t2⟩ := h.sum (k + 1)
    by_cases hlt : sumL (ps.take (k + 1)) < s
    · have hk1 : k + 1 < n := by
        apply Decidable.byContradiction; intro hc
        have ht : ps.take (k + 1) = ps := List.take_of_length_le (by omega)
        rw [ht] at hlt; omega
      go_wp2
      go_round
      case rel => exact ⟨k + 1, by omega, by go_num, fun _ => hlt⟩
      case measure => simp [intOf]; omega
    · have hat := atW_at ps k s hkl hlo.out (by omega)
      have hst := sumL_take ps k hkl
      obtain ⟨u0, u1, u2⟩ := h.sum k
      obtain ⟨bp, op, rfl, hbp, e0, e1, e2, e3, e4, e5, e6⟩ := h.p.ed k hk hkl
      obtain ⟨⟨hbent, hok⟩, hmv⟩ := h.all _ (List.getElem_mem hkl)
      obtain ⟨ed, hed⟩ : ∃ ed, ed = ps[k] := ⟨_, rfl⟩
      rw [← hed] at hat hst e0 e1 e2 e3 e4 e5 e6 hbent hok hmv
      have hHS : Strt ed := ⟨hbent, hok⟩
      have hm1 := lenE_pos hok hmv
      have hm2 := (lenE_bd hok).2
      obtain ⟨⟨a0, a1⟩, ⟨a2, a3⟩, -, -, ⟨a4, a5⟩, ⟨a6, a7⟩, -⟩ := edOK_iff.1 hok
      have hlo' : sumL (ps.take k) ≤ s := by
        rcases Nat.eq_zero_or_pos k with h1 | h1
        · subst h1; simpa [sumL] using hs0
        · exact Int.le_of_lt (hlo.out h1)
      obtain ⟨m, hm⟩ : ∃ m, m = lenE ed := ⟨_, rfl⟩
      obtain ⟨q, hq⟩ : ∃ q, q = s - sumL (ps.take k) := ⟨_, rfl⟩
      rw [← hm] at hst hm1 hm2
      have hq0 : 0 ≤ q ∧ q ≤ m := by omega
      obtain ⟨⟨x0, x1⟩, x2, x3⟩ := at_bd (x0 := ed.x0) (x1 := ed.x1) (m := m) (k := q) ⟨a0, a1⟩ ⟨a4, a5⟩ ⟨hm1, hm2⟩ hq0
      obtain ⟨⟨y0, y1⟩, y2, y3⟩ := at_bd (x0 := ed.y0) (x1 := ed.y1) (m := m) (k := q) ⟨a2, a3⟩ ⟨a6, a7⟩ ⟨hm1, hm2⟩ hq0
      have hat' : atW ps s = (rnd (ed.x0 * m + (ed.x1 - ed.x0) * q) m, rnd (ed.y0 * m + (ed.y1 - ed.y0) * q) m) := by rw [hat, ← hq, hm]; rfl
      obtain ⟨te, hte⟩ : ∃ te, te = sumL (ps.take (k + 1)) := ⟨_, rfl⟩
      rw [← hte] at hst c0 hlt t0 t1
      have hqe : s - (te - m) = q := by omega
      have HAT := Lib.hid hat'
      have HQE := Lib.hid hqe
      have HLE := Lib.hid hm
      have HSS := Lib.hid hHS
      clear hat hst hbent hok hmv hm hq hte hed hqe hat' hlo hHS
      go_wp2
      obtain ⟨W0, hW0⟩ : ∃ W0 : World, W0 = w.alloc (.cells #[.slice (some ⟨bp, op, none⟩) n cp, .slice (some ⟨b, off, none⟩) n ce] 67) := ⟨_, rfl⟩
      rw [← hW0]
      have g0 : W0.cell? ⟨w.heap.size, 0, none⟩ = some (.slice (some ⟨bp, op, none⟩) n cp) := by rw [hW0]; exact new_cell _ 0
      have g1 : W0.cell? ⟨w.heap.size, 1, none⟩ = some (.slice (some ⟨b, off, none⟩) n ce) := by rw [hW0]; exact new_cell _ 1
      have B0 : Below w.heap.size w W0 := by rw [hW0]; exact bal (Below.refl _ _) _
      have hz0 : w.heap.size < W0.heap.size := by rw [hW0]; simp
      have hzp : bp < W0.heap.size := by omega
      have hzb : b < W0.heap.size := by omega
      replace c0 := (later_cell B0 hb).trans c0
      replace e0 := (later_cell B0 hbp).trans e0
      replace e1 := (later_cell B0 hbp).trans e1
      replace e2 := (later_cell B0 hbp).trans e2
      replace e3 := (later_cell B0 hbp).trans e3
      replace e4 := (later_cell B0 hbp).trans e4
      replace e5 := (later_cell B0 hbp).trans e5
      replace e6 := (later_cell B0 hbp).trans e6
      have hS0 := And.intro g0 (And.intro e0 (And.intro e1 (And.intro e2 (And.intro e3 (And.intro e4 (And.intro e5 e6))))))
      clear hW0 h
      go_region_held3 (fun w' => w'.cell? ⟨w.heap.size, 0, none⟩ = some (.slice (some ⟨bp, op, none⟩) n cp) ∧ w'.cell? ⟨bp, op + k * 7, none⟩ = some (.int .i64 ed.x0) ∧ w'.cell? ⟨bp, op + k * 7 + 1, none⟩ = some (.int .i64 ed.y0) ∧ w'.cell? ⟨bp, op + k * 7 + 2, none⟩ = some (.bool ed.bent) ∧
          w'.cell? ⟨bp, op + k * 7 + 3, none⟩ = some (.int .i64 ed.cx) ∧ w'.cell? ⟨bp, op + k * 7 + 4, none⟩ = some (.int .i64 ed.cy) ∧ w'.cell? ⟨bp, op + k * 7 + 5, none⟩ = some (.int .i64 ed.x1) ∧ w'.cell? ⟨bp, op + k * 7 + 6, none⟩ = some (.int .i64 ed.y1)) (first | with_reducible exact keep8 (W := W0) BA hz0 hzp hS0 | with_reducible exact keep8 (W := W0) (bal BA _) hz0 hzp hS0 | with_reducible exact keep8 (W := W0) (bset7 BA (Nat.le_refl _)) hz0 hzp hS0 | go_keep)
        ((go_at_call 48; refine (dash_Long_any ed _ HSS.out).mono ?_; rintro e' w' ⟨rfl, hbA⟩; rw [← HLE.out]; have BA : Below W0.heap.size W0 w' := btr (by repeat (first | exact Below.refl _ _ | refine bal ?_ _ | refine bdrew ?_ | refine bdrewN ?_ _)) hbA; have hzA : w.heap.size < w'.heap.size := Nat.lt_of_lt_of_le hz0 BA.size; have hzP : bp < w'.heap.size := Nat.lt_of_lt_of_le hzp BA.size;
          first | (have hbB : Below (W0.alloc (.cells #[.int .i64 0, .int .i64 0, .bool false, .int .i64 0, .int .i64 0, .int .i64 0, .int .i64 0] 45)).heap.size (W0.alloc (.cells #[.int .i64 0, .int .i64 0, .bool false, .int .i64 0, .int .i64 0, .int .i64 0, .int .i64 0] 45)) w' := ⟨hbA.os, hbA.tape, hbA.output, hbA.size, hbA.block⟩; obtain ⟨f0, z0, hzW⟩ := fz_new hbB (g := W0.heap.size) rfl 0; obtain ⟨f1, z1, -⟩ := fz_new hbB (g := W0.heap.size) rfl 1; obtain ⟨f2, z2, -⟩ := fz_new hbB (g := W0.heap.size) rfl 2; obtain ⟨f3, z3, -⟩ := fz_new hbB (g := W0.heap.size) rfl 3; obtain ⟨f4, z4, -⟩ := fz_new hbB (g := W0.heap.size) rfl 4; obtain ⟨f5, z5, -⟩ := fz_new hbB (g := W0.heap.size) rfl 5; obtain ⟨f6, z6, -⟩ := fz_new hbB (g := W0.heap.size) rfl 6; clear hbA hbB) | clear hbA))
      all_goals (clear hS0)
      · obtain ⟨W2, hW2⟩ : ∃ W2 : World, W2 = w'.alloc (.cells #[.int .i64 ed.x0, .int .i64 ed.y0, .bool ed.bent, .int .i64 ed.cx, .int .i64 ed.cy, .int .i64 ed.x1, .int .i64 ed.y1] 45) := ⟨_, rfl⟩
        rw [← hW2]
        have hnc := fun j => new_cell (w := w') (t := 45) #[.int .i64 ed.x0, .int .i64 ed.y0, .bool ed.bent, .int .i64 ed.cx, .int .i64 ed.cy, .int .i64 ed.x1, .int .i64 ed.y1] j
        rw [← hW2] at hnc
        have B2 : Below W0.heap.size W0 W2 := by rw [hW2]; exact bal BA _
        have d0 : W2.cell? ⟨w'.heap.size, 0, none⟩ = some (.int .i64 ed.x0) := hnc 0
        have d1 : W2.cell? ⟨w'.heap.size, 1, none⟩ = some (.int .i64 ed.y0) := hnc 1
        have d5 : W2.cell? ⟨w'.heap.size, 5, none⟩ = some (.int .i64 ed.x1) := hnc 5
        have d6 : W2.cell? ⟨w'.heap.size, 6, none⟩ = some (.int .i64 ed.y1) := hnc 6
        clear hnc hW2 BA hzA hzP
        have C0 := (later_cell B2 hzb).trans c0
        have G1 := (later_cell B2 hz0).trans g1
        have BB := btr B0 B2
        clear c0 e0 e1 e2 e3 e4 e5 e6 g0 g1 B2
        generalize w'.heap.size = g at *
        go_wp2
        rw [HQE.out]
        go_quiet ((go_at_call 61; exact quiet_left (dash_over_any _ _ _ (by omega) (by omega))))
        go_wp2
        go_ret2
        rw [HAT.out]
        exact ⟨rfl, bdrewN BB _⟩
      · obtain ⟨W2, hW2⟩ : ∃ W2 : World, W2 = ((((((w'.setCell ⟨W0.heap.size, 0, none⟩ (.int .i64 ed.x0)).setCell ⟨W0.heap.size, 1, none⟩ (.int .i64 ed.y0)).setCell ⟨W0.heap.size, 2, none⟩ (.bool ed.bent)).setCell ⟨W0.heap.size, 3, none⟩ (.int .i64 ed.cx)).setCell ⟨W0.heap.size, 4, none⟩ (.int .i64 ed.cy)).setCell ⟨W0.heap.size, 5, none⟩ (.int .i64 ed.x1)).setCell ⟨W0.heap.size, 6, none⟩ (.int .i64 ed.y1) := ⟨_, rfl⟩
        rw [← hW2]
        have B2 : Below W0.heap.size W0 W2 := by rw [hW2]; exact bset7 BA (Nat.le_refl _)
        have hnc := cell7 (w := w') (g := W0.heap.size) (v0 := .int .i64 ed.x0) (v1 := .int .i64 ed.y0) (v2 := .bool ed.bent) (v3 := .int .i64 ed.cx) (v4 := .int .i64 ed.cy) (v5 := .int .i64 ed.x1) (v6 := .int .i64 ed.y1) (u := fun j => (#[Value.int .i64 0, Value.int .i64 0, Value.bool false, Value.int .i64 0, Value.int .i64 0, Value.int .i64 0, Value.int .i64 0] : Array Value).getD j undef)
          (by intro j hj; rcases j with _ | _ | _ | _ | _ | _ | _ | j; exact z0; exact z1; exact z2; exact z3; exact z4; exact z5; exact z6; omega)
        rw [← hW2] at hnc
        have d0 : W2.cell? ⟨W0.heap.size, 0, none⟩ = some (.int .i64 ed.x0) := hnc 0 (by omega)
        have d1 : W2.cell? ⟨W0.heap.size, 1, none⟩ = some (.int .i64 ed.y0) := hnc 1 (by omega)
        have d5 : W2.cell? ⟨W0.heap.size, 5, none⟩ = some (.int .i64 ed.x1) := hnc 5 (by omega)
        have d6 : W2.cell? ⟨W0.heap.size, 6, none⟩ = some (.int .i64 ed.y1) := hnc 6 (by omega)
        clear hnc hW2 BA hzA hzP f0 f1 f2 f3 f4 f5 f6 z0 z1 z2 z3 z4 z5 z6 hzW
        have C0 := (later_cell B2 hzb).trans c0
        have G1 := (later_cell B2 hz0).trans g1
        have BB := btr B0 B2
        clear c0 e0 e1 e2 e3 e4 e5 e6 g0 g1 B2
        generalize W0.heap.size = g at *
        go_wp2
        rw [HQE.out]
        go_quiet ((go_at_call 61; exact quiet_left (dash_over_any _ _ _ (by omega) (by omega))))
        go_wp2
        go_ret2
        rw [HAT.out]
        exact ⟨rfl, bdrewN BB _⟩

end Go.Proofs.Ytacolepcpbhceaa
