/- Places on a contour: way.long, way.at. -/
import Derived.Test.YtdfkbbcoolgfiaaGreatDash1
import Derived.Test.YtdfkbbcoolgfiaaGreatAllP
import Derived.Deep.RegionHeld3
import Derived.IntWalk
import Derived.Test.YtdfkbbcoolgfiaaGreatMNum
namespace Go.Proofs.YtdfkbbcoolgfiaaGreat
open Go.RowKit

/-- A contour's pieces in memory, and where each one ends. -/
structure WayIn (w : World) (Ap Ae : Option Addr) (n : Nat) (ps : List Ed) : Prop where
  len : ps.length = n
  few : n ≤ 1000
  all : ∀ e ∈ ps, Strt e ∧ moved e = true
  p : Sl w 7 Ap n (eds ps)
  e : Sl w 1 Ae n (ints (endsL ps))
theorem WayIn.below {w w' : World} {Ap Ae : Option Addr} {n : Nat} {ps : List Ed} (h : WayIn w Ap Ae n ps) (hb : Below w.heap.size w w') : WayIn w' Ap Ae n ps := ⟨h.len, h.few, h.all, h.p.below hb, h.e.below hb⟩
theorem WayIn.endAt {w : World} {Ap Ae : Option Addr} {n : Nat} {ps : List Ed} (h : WayIn w Ap Ae n ps) (k : Nat) (hk : k < n) :
    ∃ b off : Nat, Ae = some ⟨b, off, none⟩ ∧ b < w.heap.size ∧ w.cell? ⟨b, off + k, none⟩ = some (.int .i64 (sumL (ps.take (k + 1)))) := by
  have hl : k < (endsL ps).length := by rw [endsL_len, h.len]; exact hk
  obtain ⟨b, off, e, hb, hc⟩ := h.e.intAt k hk hl
  rw [endsL_get] at hc
  exact ⟨b, off, e, hb, hc⟩
theorem WayIn.sum {w : World} {Ap Ae : Option Addr} {n : Nat} {ps : List Ed} (h : WayIn w Ap Ae n ps) (k : Nat) : 0 ≤ sumL (ps.take k) ∧ sumL (ps.take k) ≤ sumL ps ∧ sumL ps ≤ 23167000 := by
  have h1 := sumL_bd (l := ps) (fun e he => (h.all e he).1.2)
  have h2 := h.len
  have h3 := h.few
  exact ⟨sumL_nonneg _, sumL_take_le _ _, by omega⟩

set_option maxHeartbeats 400000 in
theorem way_long_any (Ap Ae : Option Addr) (n cp ce : Nat) (ps : List Ed) (w : World) (h : WayIn w Ap Ae n ps) :
    Calls Tryz.prog 125 #[.agg #[.slice Ap n cp, .slice Ae n ce]] w fun e w' => e = .returned (.int .i64 (sumL ps)) ∧ Below w.heap.size w w' := by
  have hf := h.few
  by_cases h0 : n = 0
  · subst h0
    have hp : ps = [] := List.eq_nil_of_length_eq_zero h.len
    subst hp
    go_enter Tryz.func125, Tryz.ntmps125
    go_wp2
    go_ret
    exact ⟨rfl, bal (Below.refl _ _) _⟩
  · obtain ⟨b, off, rfl, hb, c0⟩ := h.endAt (n - 1) (by omega)
    have ht : ps.take (n - 1 + 1) = ps := List.take_of_length_le (by rw [h.len]; omega)
    rw [ht] at c0
    have hn0 : ((n : Int) == 0) = false := by simp; omega
    have hn1 : 1 ≤ n := by omega
    clear ht
    go_enter Tryz.func125, Tryz.ntmps125
    go_wp2
    go_ret
    exact ⟨rfl, bal (Below.refl _ _) _⟩

/-- What a place's numbers are bounded by. -/
theorem at_bd {x0 x1 m k : Int} (h0 : -8191 ≤ x0 ∧ x0 ≤ 8191) (h1 : -8191 ≤ x1 ∧ x1 ≤ 8191) (hm : 1 ≤ m ∧ m ≤ 23167) (hk : 0 ≤ k ∧ k ≤ m) :
    (-190000000 ≤ x0 * m ∧ x0 * m ≤ 190000000) ∧ (-380000000 ≤ (x1 - x0) * k ∧ (x1 - x0) * k ≤ 380000000) := by
  have a := mul_bd (a := x0) (b := m) (A := 8191) (B := 23167) h0 (by omega)
  have b := mul_bd (a := x1 - x0) (b := k) (A := 16382) (B := 23167) (by omega) (by omega)
  omega

theorem keep8 {W w' : World} {g b o : Nat} {u v0 v1 v2 v3 v4 v5 v6 : Value} (hb : Below W.heap.size W w') (hg : g < W.heap.size) (hlt : b < W.heap.size)
    (h : W.cell? ⟨g, 0, none⟩ = some u ∧ W.cell? ⟨b, o, none⟩ = some v0 ∧ W.cell? ⟨b, o + 1, none⟩ = some v1 ∧ W.cell? ⟨b, o + 2, none⟩ = some v2 ∧ W.cell? ⟨b, o + 3, none⟩ = some v3 ∧ W.cell? ⟨b, o + 4, none⟩ = some v4 ∧ W.cell? ⟨b, o + 5, none⟩ = some v5 ∧ W.cell? ⟨b, o + 6, none⟩ = some v6) :
    w'.cell? ⟨g, 0, none⟩ = some u ∧ w'.cell? ⟨b, o, none⟩ = some v0 ∧ w'.cell? ⟨b, o + 1, none⟩ = some v1 ∧ w'.cell? ⟨b, o + 2, none⟩ = some v2 ∧ w'.cell? ⟨b, o + 3, none⟩ = some v3 ∧ w'.cell? ⟨b, o + 4, none⟩ = some v4 ∧ w'.cell? ⟨b, o + 5, none⟩ = some v5 ∧ w'.cell? ⟨b, o + 6, none⟩ = some v6 := by
  obtain ⟨h', h0, h1, h2, h3, h4, h5, h6⟩ := h
  exact ⟨(later_cell hb hg).trans h', (later_cell hb hlt).trans h0, (later_cell hb hlt).trans h1, (later_cell hb hlt).trans h2, (later_cell hb hlt).trans h3, (later_cell hb hlt).trans h4, (later_cell hb hlt).trans h5, (later_cell hb hlt).trans h6⟩

theorem bset7 {W w : World} {g : Nat} {v0 v1 v2 v3 v4 v5 v6 : Value} (h : Below W.heap.size W w) (hg : W.heap.size ≤ g) :
    Below W.heap.size W (((((((w.setCell ⟨g, 0, none⟩ v0).setCell ⟨g, 1, none⟩ v1).setCell ⟨g, 2, none⟩ v2).setCell ⟨g, 3, none⟩ v3).setCell ⟨g, 4, none⟩ v4).setCell ⟨g, 5, none⟩ v5).setCell ⟨g, 6, none⟩ v6) :=
  bset (bset (bset (bset (bset (bset (bset h hg _) hg _) hg _) hg _) hg _) hg _) hg _
theorem cell7 {w : World} {g : Nat} {v0 v1 v2 v3 v4 v5 v6 : Value} {u : Nat → Value} (h : ∀ j, j < 7 → w.cell? ⟨g, j, none⟩ = some (u j)) :
    ∀ j, j < 7 → (((((((w.setCell ⟨g, 0, none⟩ v0).setCell ⟨g, 1, none⟩ v1).setCell ⟨g, 2, none⟩ v2).setCell ⟨g, 3, none⟩ v3).setCell ⟨g, 4, none⟩ v4).setCell ⟨g, 5, none⟩ v5).setCell ⟨g, 6, none⟩ v6).cell? ⟨g, j, none⟩ = #[v0, v1, v2, v3, v4, v5, v6][j]? := by
  intro j hj
  have hs : ∀ (W : World) (i : Nat) (v : Value) (x : Value), W.cell? ⟨g, j, none⟩ = some x → (W.setCell ⟨g, i, none⟩ v).cell? ⟨g, j, none⟩ = some (if i = j then v else x) := by
    intro W i v x hx
    by_cases hij : i = j
    · subst hij; rw [if_pos rfl, World.cell?_setCell_same _ _ _ hx]
    · rw [if_neg hij, World.cell?_setCell_other _ _ _ _ (by intro e; injection e; omega)]; exact hx
  rw [hs _ 6 _ _ (hs _ 5 _ _ (hs _ 4 _ _ (hs _ 3 _ _ (hs _ 2 _ _ (hs _ 1 _ _ (hs _ 0 _ _ (h j hj)))))))]
  rcases j with _ | _ | _ | _ | _ | _ | _ | j
  all_goals first | rfl | omega
theorem fz_new {V V' : World} {g : Nat} {cs : Array Value} {t : TypeId} (hb : Below (V.alloc (.cells cs t)).heap.size (V.alloc (.cells cs t)) V') (hg : V.heap.size = g) (j : Nat) :
    V'.frozen? ⟨g, j, none⟩ = false ∧ V'.cell? ⟨g, j, none⟩ = cs[j]? ∧ g < V'.heap.size := by
  subst hg
  exact ⟨(later_frozen hb (by simp)).trans (frozen_of_row _ _ _ _ _ (heap_alloc_new _ _)), (later_cell hb (by simp)).trans (new_cell _ j), Nat.lt_of_lt_of_le (by simp) hb.size⟩

set_option maxRecDepth 100000 in
set_option maxHeartbeats 2000000 in
theorem way_at_any (Ap Ae : Option Addr) (n cp ce : Nat) (ps : List Ed) (s : Int) (w : World) (h : WayIn w Ap Ae n ps) (h0 : 0 < n) (hs0 : 0 ≤ s) (hs1 : s ≤ sumL ps) :
    Calls Tryz.prog 157 #[.agg #[.slice Ap n cp, .slice Ae n ce], .int .i64 s] w
      fun e w' => e = .returned (.tuple #[.int .i64 (atW ps s).1, .int .i64 (atW ps s).2]) ∧ Below w.heap.size w w' := by
  have hf := h.few
  have hl := h.len
  go_enter Tryz.func157, Tryz.ntmps157
  go_wp2
  go_loop [6] (fun i => ∃ k : Nat, k < n ∧ i = .int .i64 k ∧ Hid (0 < k → sumL (ps.take k) < s)) (fun i => n - (intOf i).toNat)
  case atStart => exact ⟨0, h0, rfl, fun h => absurd h (by omega)⟩
  case round =>
    obtain ⟨k, hk, rfl, hlo⟩ := hrel
    obtain ⟨b, off, rfl, hb, c0⟩ := h.endAt k hk
    have hkl : k < ps.length := by omega
    obtain ⟨t0, t1, t2⟩ := h.sum (k + 1)
    by_cases hlt : sumL (ps.take (k + 1)) < s
    · have hk1 : k + 1 < n := by
        apply Decidable.byContradiction; intro hc
        have ht : ps.take (k + 1) = ps := List.take_of_length_le (by omega)
        rw [ht] at hlt; omega
      go_wp2
      go_round
      case rel => exact ⟨k + 1, by omega, by go_num, fun _ => hlt⟩
      case measure => simp [intOf]; omega
    · have hat := atW_at ps k s hkl hlo.out (by omega)
      have hst := sumL_take ps k hkl
      obtain ⟨u0, u1, u2⟩ := h.sum k
      obtain ⟨bp, op, rfl, hbp, e0, e1, e2, e3, e4, e5, e6⟩ := h.p.ed k hk hkl
      obtain ⟨⟨hbent, hok⟩, hmv⟩ := h.all _ (List.getElem_mem hkl)
      obtain ⟨ed, hed⟩ : ∃ ed, ed = ps[k] := ⟨_, rfl⟩
      rw [← hed] at hat hst e0 e1 e2 e3 e4 e5 e6 hbent hok hmv
      have hHS : Strt ed := ⟨hbent, hok⟩
      have hm1 := lenE_pos hok hmv
      have hm2 := (lenE_bd hok).2
      obtain ⟨⟨a0, a1⟩, ⟨a2, a3⟩, -, -, ⟨a4, a5⟩, ⟨a6, a7⟩, -⟩ := edOK_iff.1 hok
      have hlo' : sumL (ps.take k) ≤ s := by
        rcases Nat.eq_zero_or_pos k with h1 | h1
        · subst h1; simpa [sumL] using hs0
        · exact Int.le_of_lt (hlo.out h1)
      obtain ⟨m, hm⟩ : ∃ m, m = lenE ed := ⟨_, rfl⟩
      obtain ⟨q, hq⟩ : ∃ q, q = s - sumL (ps.take k) := ⟨_, rfl⟩
      rw [← hm] at hst hm1 hm2
      have hq0 : 0 ≤ q ∧ q ≤ m := by omega
      obtain ⟨⟨x0, x1⟩, x2, x3⟩ := at_bd (x0 := ed.x0) (x1 := ed.x1) (m := m) (k := q) ⟨a0, a1⟩ ⟨a4, a5⟩ ⟨hm1, hm2⟩ hq0
      obtain ⟨⟨y0, y1⟩, y2, y3⟩ := at_bd (x0 := ed.y0) (x1 := ed.y1) (m := m) (k := q) ⟨a2, a3⟩ ⟨a6, a7⟩ ⟨hm1, hm2⟩ hq0
      have hat' : atW ps s = (rnd (ed.x0 * m + (ed.x1 - ed.x0) * q) m, rnd (ed.y0 * m + (ed.y1 - ed.y0) * q) m) := by rw [hat, ← hq, hm]; rfl
      obtain ⟨te, hte⟩ : ∃ te, te = sumL (ps.take (k + 1)) := ⟨_, rfl⟩
      rw [← hte] at hst c0 hlt t0 t1
      have hqe : s - (te - m) = q := by omega
      have HAT := Lib.hid hat'
      have HQE := Lib.hid hqe
      have HLE := Lib.hid hm
      have HSS := Lib.hid hHS
      clear hat hst hbent hok hmv hm hq hte hed hqe hat' hlo hHS
      go_wp2
      obtain ⟨W0, hW0⟩ : ∃ W0 : World, W0 = w.alloc (.cells #[.slice (some ⟨bp, op, none⟩) n cp, .slice (some ⟨b, off, none⟩) n ce] 169) := ⟨_, rfl⟩
      rw [← hW0]
      have g0 : W0.cell? ⟨w.heap.size, 0, none⟩ = some (.slice (some ⟨bp, op, none⟩) n cp) := by rw [hW0]; exact new_cell _ 0
      have g1 : W0.cell? ⟨w.heap.size, 1, none⟩ = some (.slice (some ⟨b, off, none⟩) n ce) := by rw [hW0]; exact new_cell _ 1
      have B0 : Below w.heap.size w W0 := by rw [hW0]; exact bal (Below.refl _ _) _
      have hz0 : w.heap.size < W0.heap.size := by rw [hW0]; simp
      have hzp : bp < W0.heap.size := by omega
      have hzb : b < W0.heap.size := by omega
      replace c0 := (later_cell B0 hb).trans c0
      replace e0 := (later_cell B0 hbp).trans e0
      replace e1 := (later_cell B0 hbp).trans e1
      replace e2 := (later_cell B0 hbp).trans e2
      replace e3 := (later_cell B0 hbp).trans e3
      replace e4 := (later_cell B0 hbp).trans e4
      replace e5 := (later_cell B0 hbp).trans e5
      replace e6 := (later_cell B0 hbp).trans e6
      have hS0 := And.intro g0 (And.intro e0 (And.intro e1 (And.intro e2 (And.intro e3 (And.intro e4 (And.intro e5 e6))))))
      clear hW0 h
      go_region_held3 (fun w' => w'.cell? ⟨w.heap.size, 0, none⟩ = some (.slice (some ⟨bp, op, none⟩) n cp) ∧ w'.cell? ⟨bp, op + k * 7, none⟩ = some (.int .i64 ed.x0) ∧ w'.cell? ⟨bp, op + k * 7 + 1, none⟩ = some (.int .i64 ed.y0) ∧ w'.cell? ⟨bp, op + k * 7 + 2, none⟩ = some (.bool ed.bent) ∧
          w'.cell? ⟨bp, op + k * 7 + 3, none⟩ = some (.int .i64 ed.cx) ∧ w'.cell? ⟨bp, op + k * 7 + 4, none⟩ = some (.int .i64 ed.cy) ∧ w'.cell? ⟨bp, op + k * 7 + 5, none⟩ = some (.int .i64 ed.x1) ∧ w'.cell? ⟨bp, op + k * 7 + 6, none⟩ = some (.int .i64 ed.y1)) (first | with_reducible exact keep8 (W := W0) BA hz0 hzp hS0 | with_reducible exact keep8 (W := W0) (bal BA _) hz0 hzp hS0 | with_reducible exact keep8 (W := W0) (bset7 BA (Nat.le_refl _)) hz0 hzp hS0 | go_keep)
        ((go_at_call 156; refine (dash_Long_any ed _ HSS.out).mono ?_; rintro e' w' ⟨rfl, hbA⟩; rw [← HLE.out]; have BA : Below W0.heap.size W0 w' := btr (by repeat (first | exact Below.refl _ _ | refine bal ?_ _ | refine bdrew ?_ | refine bdrewN ?_ _)) hbA; have hzA : w.heap.size < w'.heap.size := Nat.lt_of_lt_of_le hz0 BA.size; have hzP : bp < w'.heap.size := Nat.lt_of_lt_of_le hzp BA.size;
          first | (have hbB : Below (W0.alloc (.cells #[.int .i64 0, .int .i64 0, .bool false, .int .i64 0, .int .i64 0, .int .i64 0, .int .i64 0] 112)).heap.size (W0.alloc (.cells #[.int .i64 0, .int .i64 0, .bool false, .int .i64 0, .int .i64 0, .int .i64 0, .int .i64 0] 112)) w' := ⟨hbA.os, hbA.tape, hbA.output, hbA.size, hbA.block⟩; obtain ⟨f0, z0, hzW⟩ := fz_new hbB (g := W0.heap.size) rfl 0; obtain ⟨f1, z1, -⟩ := fz_new hbB (g := W0.heap.size) rfl 1; obtain ⟨f2, z2, -⟩ := fz_new hbB (g := W0.heap.size) rfl 2; obtain ⟨f3, z3, -⟩ := fz_new hbB (g := W0.heap.size) rfl 3; obtain ⟨f4, z4, -⟩ := fz_new hbB (g := W0.heap.size) rfl 4; obtain ⟨f5, z5, -⟩ := fz_new hbB (g := W0.heap.size) rfl 5; obtain ⟨f6, z6, -⟩ := fz_new hbB (g := W0.heap.size) rfl 6; clear hbA hbB) | clear hbA))
      all_goals (clear hS0)
      · obtain ⟨W2, hW2⟩ : ∃ W2 : World, W2 = w'.alloc (.cells #[.int .i64 ed.x0, .int .i64 ed.y0, .bool ed.bent, .int .i64 ed.cx, .int .i64 ed.cy, .int .i64 ed.x1, .int .i64 ed.y1] 112) := ⟨_, rfl⟩
        rw [← hW2]
        have hnc := fun j => new_cell (w := w') (t := 112) #[.int .i64 ed.x0, .int .i64 ed.y0, .bool ed.bent, .int .i64 ed.cx, .int .i64 ed.cy, .int .i64 ed.x1, .int .i64 ed.y1] j
        rw [← hW2] at hnc
        have B2 : Below W0.heap.size W0 W2 := by rw [hW2]; exact bal BA _
        have d0 : W2.cell? ⟨w'.heap.size, 0, none⟩ = some (.int .i64 ed.x0) := hnc 0
        have d1 : W2.cell? ⟨w'.heap.size, 1, none⟩ = some (.int .i64 ed.y0) := hnc 1
        have d5 : W2.cell? ⟨w'.heap.size, 5, none⟩ = some (.int .i64 ed.x1) := hnc 5
        have d6 : W2.cell? ⟨w'.heap.size, 6, none⟩ = some (.int .i64 ed.y1) := hnc 6
        clear hnc hW2 BA hzA hzP
        have C0 := (later_cell B2 hzb).trans c0
        have G1 := (later_cell B2 hz0).trans g1
        have BB := btr B0 B2
        clear c0 e0 e1 e2 e3 e4 e5 e6 g0 g1 B2
        generalize w'.heap.size = g at *
        go_wp2
        rw [HQE.out]
        go_quiet ((go_at_call 174; exact quiet_left (dash_over_any _ _ _ (by omega) (by omega))))
        go_wp2
        go_ret2
        rw [HAT.out]
        exact ⟨rfl, bdrewN BB _⟩
      · obtain ⟨W2, hW2⟩ : ∃ W2 : World, W2 = ((((((w'.setCell ⟨W0.heap.size, 0, none⟩ (.int .i64 ed.x0)).setCell ⟨W0.heap.size, 1, none⟩ (.int .i64 ed.y0)).setCell ⟨W0.heap.size, 2, none⟩ (.bool ed.bent)).setCell ⟨W0.heap.size, 3, none⟩ (.int .i64 ed.cx)).setCell ⟨W0.heap.size, 4, none⟩ (.int .i64 ed.cy)).setCell ⟨W0.heap.size, 5, none⟩ (.int .i64 ed.x1)).setCell ⟨W0.heap.size, 6, none⟩ (.int .i64 ed.y1) := ⟨_, rfl⟩
        rw [← hW2]
        have B2 : Below W0.heap.size W0 W2 := by rw [hW2]; exact bset7 BA (Nat.le_refl _)
        have hnc := cell7 (w := w') (g := W0.heap.size) (v0 := .int .i64 ed.x0) (v1 := .int .i64 ed.y0) (v2 := .bool ed.bent) (v3 := .int .i64 ed.cx) (v4 := .int .i64 ed.cy) (v5 := .int .i64 ed.x1) (v6 := .int .i64 ed.y1) (u := fun j => (#[Value.int .i64 0, Value.int .i64 0, Value.bool false, Value.int .i64 0, Value.int .i64 0, Value.int .i64 0, Value.int .i64 0] : Array Value).getD j undef)
          (by intro j hj; rcases j with _ | _ | _ | _ | _ | _ | _ | j; exact z0; exact z1; exact z2; exact z3; exact z4; exact z5; exact z6; omega)
        rw [← hW2] at hnc
        have d0 : W2.cell? ⟨W0.heap.size, 0, none⟩ = some (.int .i64 ed.x0) := hnc 0 (by omega)
        have d1 : W2.cell? ⟨W0.heap.size, 1, none⟩ = some (.int .i64 ed.y0) := hnc 1 (by omega)
        have d5 : W2.cell? ⟨W0.heap.size, 5, none⟩ = some (.int .i64 ed.x1) := hnc 5 (by omega)
        have d6 : W2.cell? ⟨W0.heap.size, 6, none⟩ = some (.int .i64 ed.y1) := hnc 6 (by omega)
        clear hnc hW2 BA hzA hzP f0 f1 f2 f3 f4 f5 f6 z0 z1 z2 z3 z4 z5 z6 hzW
        have C0 := (later_cell B2 hzb).trans c0
        have G1 := (later_cell B2 hz0).trans g1
        have BB := btr B0 B2
        clear c0 e0 e1 e2 e3 e4 e5 e6 g0 g1 B2
        generalize W0.heap.size = g at *
        go_wp2
        rw [HQE.out]
        go_quiet ((go_at_call 174; exact quiet_left (dash_over_any _ _ _ (by omega) (by omega))))
        go_wp2
        go_ret2
        rw [HAT.out]
        exact ⟨rfl, bdrewN BB _⟩

end Go.Proofs.YtdfkbbcoolgfiaaGreat

namespace Go.Proofs.YtdfkbbcoolgfiaaGreat
open Go.RowKit

theorem edT2 : SlT Tryz.prog 109 112 7 56 := slT_of Tryz.underlying109 (by kernel_rfl) (by omega) (by omega)
theorem inT2 : SlT Tryz.prog 28 3 1 8 := slT_of Tryz.underlying28 (by kernel_rfl) (by omega) (by omega)

/-- Where each one ends, alone. -/
theorem endAt2 {w : World} {Ae : Option Addr} {n : Nat} {ps : List Ed} (hl : ps.length = n) (h : Sl w 1 Ae n (ints (endsL ps))) (k : Nat) (hk : k < n) :
    ∃ b off : Nat, Ae = some ⟨b, off, none⟩ ∧ b < w.heap.size ∧ w.cell? ⟨b, off + k, none⟩ = some (.int .i64 (sumL (ps.take (k + 1)))) := by
  have hl : k < (endsL ps).length := by rw [endsL_len, hl]; exact hk
  obtain ⟨b, off, e, hb, hc⟩ := h.intAt k hk hl
  rw [endsL_get] at hc
  exact ⟨b, off, e, hb, hc⟩

set_option maxHeartbeats 400000 in
theorem way_long_e (Ap Ae : Option Addr) (n np cp ce : Nat) (ps : List Ed) (w : World) (hl : ps.length = n) (hf : n ≤ 1000) (h : Sl w 1 Ae n (ints (endsL ps))) :
    Calls Tryz.prog 125 #[.agg #[.slice Ap np cp, .slice Ae n ce]] w fun e w' => e = .returned (.int .i64 (sumL ps)) ∧ Below w.heap.size w w' := by
  by_cases h0 : n = 0
  · subst h0
    have hp : ps = [] := List.eq_nil_of_length_eq_zero hl
    subst hp
    go_enter Tryz.func125, Tryz.ntmps125
    go_wp2
    go_ret
    exact ⟨rfl, bal (Below.refl _ _) _⟩
  · obtain ⟨b, off, rfl, hb, c0⟩ := endAt2 hl h (n - 1) (by omega)
    have ht : ps.take (n - 1 + 1) = ps := List.take_of_length_le (by omega)
    rw [ht] at c0
    have hn0 : ((n : Int) == 0) = false := by simp; omega
    have hn1 : 1 ≤ n := by omega
    clear ht hl
    go_enter Tryz.func125, Tryz.ntmps125
    go_wp2
    go_ret
    exact ⟨rfl, bal (Below.refl _ _) _⟩

/-- Block g is a way: its two rows lie behind it. -/
def WSt (w : World) (g m n : Nat) (ps : List Ed) : Prop :=
  ∃ (Ap Ae : Option Addr) (cp ce : Nat), (g < m ∧ m ≤ w.heap.size ∧ (∀ k, Value.ownBlock (.slice Ap n cp) = some k → k < m) ∧ ∀ k, Value.ownBlock (.slice Ae n ce) = some k → k < m) ∧ ps.length = n ∧ w.cell? ⟨g, 0, none⟩ = some (.slice Ap n cp) ∧ w.cell? ⟨g, 1, none⟩ = some (.slice Ae n ce) ∧ w.frozen? ⟨g, 0, none⟩ = false ∧ w.frozen? ⟨g, 1, none⟩ = false ∧ g < w.heap.size ∧
    w.ownsRow (g + 1) 112 7 (.slice Ap n cp) n (eds ps) ∧ w.ownsRow (g + 1) 3 1 (.slice Ae n ce) n (ints (endsL ps))
theorem WSt.below {w w' : World} {g m n : Nat} {ps : List Ed} (h : WSt w g m n ps) (hb : Below w.heap.size w w') : WSt w' g m n ps := by
  obtain ⟨Ap, Ae, cp, ce, ⟨h1, h2, h3⟩, hl, c0, c1, f0, f1, hg, hA, hE⟩ := h
  exact ⟨Ap, Ae, cp, ce, ⟨h1, Nat.le_trans h2 hb.size, h3⟩, hl, (later_cell hb hg).trans c0, (later_cell hb hg).trans c1, (later_frozen hb hg).trans f0, (later_frozen hb hg).trans f1, Nat.lt_of_lt_of_le hg hb.size, own_below hA hb, own_below hE hb⟩
theorem WSt.top {w : World} {g m n : Nat} {ps : List Ed} (h : WSt w g m n ps) : WSt w g w.heap.size n ps := by
  obtain ⟨Ap, Ae, cp, ce, ⟨h1, h2, h3, h4⟩, rest⟩ := h
  exact ⟨Ap, Ae, cp, ce, ⟨Nat.lt_of_lt_of_le h1 h2, Nat.le_refl _, fun k hk => Nat.lt_of_lt_of_le (h3 k hk) h2, fun k hk => Nat.lt_of_lt_of_le (h4 k hk) h2⟩, rest⟩
/-- The blocks from m on are as they were. -/
def Kept (w w' : World) (m : Nat) : Prop := ∀ b, m ≤ b → b < w.heap.size → w'.heap[b]? = w.heap[b]?
theorem Kept.tr {w w' w2 : World} {m : Nat} (h : Kept w w' m) (hs : w.heap.size ≤ w'.heap.size) (h' : Kept w' w2 m) : Kept w w2 m := fun b hb hl => (h' b hb (by omega)).trans (h b hb hl)
theorem Kept.of {w w' : World} {m : Nat} (h : Below w.heap.size w w') : Kept w w' m := fun b _ hl => h.block b hl
theorem Kept.row {w w' : World} {m : Nat} {row : Option Nat} (h : w.grownBy w' row) (hr : ∀ k, row = some k → k < m) : Kept w w' m := fun b hb hl => h.block b hl (fun e => by have := hr b e.symm; omega)
theorem Kept.set {w : World} {m g j : Nat} {u : Value} (h : g < m) : Kept w (w.setCell ⟨g, j, none⟩ u) m := fun b hb _ => heap_setCell_other w ⟨g, j, none⟩ b u (by simp; omega)
theorem set_grown (w : World) (g j : Nat) (u : Value) : w.grownBy (w.setCell ⟨g, j, none⟩ u) (some g) :=
  ⟨rfl, rfl, rfl, by simp [World.setCell], fun k _ hk => heap_setCell_other w ⟨g, j, none⟩ k _ (fun e => hk (by simp [e]))⟩
theorem own_gg {w w' : World} {g base : Nat} {e : TypeId} {s n : Nat} {v : Value} {xs : List Value} (h : w.ownsRow base e s v n xs) (hg : w.grownBy w' (some g)) (hb : g < base) : w'.ownsRow base e s v n xs :=
  h.kept hg (by
    cases hv : v.ownBlock with
    | none => exact .inl rfl
    | some k => refine .inr ?_; have := (h.lt k hv).1; intro e; injection e with e; omega)
/-- The first store: the pieces have grown. -/
theorem add_mid {w w3 : World} {g n c2 cp ce : Nat} {A2 Ap Ae : Option Addr} {ps : List Ed} {e : Ed} (hc0 : w.cell? ⟨g, 0, none⟩ = some (.slice Ap n cp)) (hc1 : w.cell? ⟨g, 1, none⟩ = some (.slice Ae n ce)) (hf0 : w.frozen? ⟨g, 0, none⟩ = false) (hf1 : w.frozen? ⟨g, 1, none⟩ = false) (hg : g < w.heap.size)
    (hA : w.ownsRow (g + 1) 112 7 (.slice Ap n cp) n (eds ps)) (hE : w.ownsRow (g + 1) 3 1 (.slice Ae n ce) n (ints (endsL ps)))
    (hA3 : w3.ownsRow (g + 1) 112 7 (.slice A2 (n + 1) c2) (n + 1) (eds ps ++ edc e)) (hg3 : w.grownBy w3 (Value.ownBlock (.slice Ap n cp))) {m : Nat} (hm : g < m) (hmA : ∀ k, Value.ownBlock (.slice Ap n cp) = some k → k < m) :
    Kept w (w3.setCell ⟨g, 0, none⟩ (.slice A2 (n + 1) c2)) m ∧ (w3.cell? ⟨g, 0, none⟩ = some (.slice Ap n cp) ∧ w3.frozen? ⟨g, 0, none⟩ = false) ∧
    ((w3.setCell ⟨g, 0, none⟩ (.slice A2 (n + 1) c2)).cell? ⟨g, 0, none⟩ = some (.slice A2 (n + 1) c2) ∧ (w3.setCell ⟨g, 0, none⟩ (.slice A2 (n + 1) c2)).cell? ⟨g, 1, none⟩ = some (.slice Ae n ce) ∧
      (w3.setCell ⟨g, 0, none⟩ (.slice A2 (n + 1) c2)).frozen? ⟨g, 0, none⟩ = false ∧ (w3.setCell ⟨g, 0, none⟩ (.slice A2 (n + 1) c2)).frozen? ⟨g, 1, none⟩ = false ∧ g < (w3.setCell ⟨g, 0, none⟩ (.slice A2 (n + 1) c2)).heap.size) ∧
    (w3.setCell ⟨g, 0, none⟩ (.slice A2 (n + 1) c2)).ownsRow (g + 1) 112 7 (.slice A2 (n + 1) c2) (n + 1) (eds (ps ++ [e])) ∧
    (w3.setCell ⟨g, 0, none⟩ (.slice A2 (n + 1) c2)).ownsRow (g + 1) 3 1 (.slice Ae n ce) n (ints (endsL ps)) ∧ Below g w (w3.setCell ⟨g, 0, none⟩ (.slice A2 (n + 1) c2)) := by
  have hr : ∀ k, Value.ownBlock (.slice Ap n cp) = some k → g < k := fun k hk => (hA.lt k hk).1
  have hbk : w3.heap[g]? = w.heap[g]? := hg3.block g hg (fun e => by have := hr g e.symm; omega)
  have x0 := (World.cell?_of_block (a := ⟨g, 0, none⟩) hbk).trans hc0
  have x1 := (World.cell?_of_block (a := ⟨g, 1, none⟩) hbk).trans hc1
  have y0 := (World.frozen?_of_block (a := ⟨g, 0, none⟩) hbk).trans hf0
  have y1 := (World.frozen?_of_block (a := ⟨g, 1, none⟩) hbk).trans hf1
  have hg3' : g < w3.heap.size := Nat.lt_of_lt_of_le hg hg3.size
  have hE3 := hE.kept hg3 (own_ne hE hA (by decide))
  refine ⟨(Kept.row hg3 hmA).tr hg3.size (Kept.set hm), ⟨x0, y0⟩, ⟨World.cell?_setCell_same _ _ _ x0, ?_, ?_, ?_, by simpa [World.setCell] using hg3'⟩, ?_, own_gg hE3 (set_grown _ _ _ _) (by omega), ?_⟩
  · rw [World.cell?_setCell_other _ _ _ _ (by intro e; injection e; omega)]; exact x1
  · rw [World.frozen?_setCell]; exact y0
  · rw [World.frozen?_setCell]; exact y1
  · rw [eds_app, eds_one]; exact own_gg hA3 (set_grown _ _ _ _) (by omega)
  · refine (Below.grown (Below.refl g w) hg3 (by omega) (fun k hk => Nat.le_of_lt (hr k hk))).setCell (Nat.le_refl _) _
/-- The second store: its end is told. -/
theorem add_end {w w4 w5 : World} {g n c2 c5 ce : Nat} {A2 A5 Ae : Option Addr} {ps : List Ed} {e : Ed} (hl : ps.length = n) (hc0 : w.cell? ⟨g, 0, none⟩ = some (.slice A2 (n + 1) c2)) (hc1 : w.cell? ⟨g, 1, none⟩ = some (.slice Ae n ce)) (hf0 : w.frozen? ⟨g, 0, none⟩ = false) (hf1 : w.frozen? ⟨g, 1, none⟩ = false) (hg : g < w.heap.size)
    (hA : w.ownsRow (g + 1) 112 7 (.slice A2 (n + 1) c2) (n + 1) (eds (ps ++ [e]))) (hE : w.ownsRow (g + 1) 3 1 (.slice Ae n ce) n (ints (endsL ps))) (hb : Below w.heap.size w w4)
    (hE5 : w5.ownsRow (g + 1) 3 1 (.slice A5 (n + 1) c5) (n + 1) (ints (endsL ps) ++ [.int .i64 (sumL ps + lenE e)])) (hg5 : w4.grownBy w5 (Value.ownBlock (.slice Ae n ce))) {m : Nat} (hm : g < m) (hmE : ∀ k, Value.ownBlock (.slice Ae n ce) = some k → k < m) :
    Kept w (w5.setCell ⟨g, 1, none⟩ (.slice A5 (n + 1) c5)) m ∧ (w5.cell? ⟨g, 1, none⟩ = some (.slice Ae n ce) ∧ w5.frozen? ⟨g, 1, none⟩ = false) ∧ WSt (w5.setCell ⟨g, 1, none⟩ (.slice A5 (n + 1) c5)) g (w5.setCell ⟨g, 1, none⟩ (.slice A5 (n + 1) c5)).heap.size (n + 1) (ps ++ [e]) ∧ Below g w (w5.setCell ⟨g, 1, none⟩ (.slice A5 (n + 1) c5)) := by
  have hr : ∀ k, Value.ownBlock (.slice Ae n ce) = some k → g < k := fun k hk => (hE.lt k hk).1
  have hE4 := own_below hE hb
  have hA4 := own_below hA hb
  have hgl : g < w4.heap.size := Nat.lt_of_lt_of_le hg hb.size
  have hbk : w5.heap[g]? = w4.heap[g]? := hg5.block g hgl (fun e => by have := hr g e.symm; omega)
  have x0 := (World.cell?_of_block (a := ⟨g, 0, none⟩) hbk).trans ((later_cell hb hg).trans hc0)
  have x1 := (World.cell?_of_block (a := ⟨g, 1, none⟩) hbk).trans ((later_cell hb hg).trans hc1)
  have y0 := (World.frozen?_of_block (a := ⟨g, 0, none⟩) hbk).trans ((later_frozen hb hg).trans hf0)
  have y1 := (World.frozen?_of_block (a := ⟨g, 1, none⟩) hbk).trans ((later_frozen hb hg).trans hf1)
  have hg5' : g < w5.heap.size := Nat.lt_of_lt_of_le hgl hg5.size
  have hA5 := hA4.kept hg5 (own_ne hA4 hE4 (by decide))
  have hEE : (w5.setCell ⟨g, 1, none⟩ (.slice A5 (n + 1) c5)).ownsRow (g + 1) 3 1 (.slice A5 (n + 1) c5) (n + 1) (ints (endsL ps) ++ [.int .i64 (sumL ps + lenE e)]) := own_gg hE5 (set_grown _ _ _ _) (by omega)
  have hAA := own_gg hA5 (set_grown w5 g 1 (.slice A5 (n + 1) c5)) (by omega)
  refine ⟨((Kept.of hb).tr hb.size (Kept.row hg5 hmE)).tr (Nat.le_trans hb.size hg5.size) (Kept.set hm), ⟨x1, y1⟩, ⟨A2, A5, c2, c5, ⟨by simpa [World.setCell] using hg5', Nat.le_refl _, fun k hk => (hAA.lt k hk).2, fun k hk => (hEE.lt k hk).2⟩, by simp [hl], ?_, World.cell?_setCell_same _ _ _ x1, ?_, ?_, by simpa [World.setCell] using hg5', own_gg hA5 (set_grown _ _ _ _) (by omega), ?_⟩, ?_⟩
  · rw [World.cell?_setCell_other _ _ _ _ (by intro e; injection e; omega)]; exact x0
  · rw [World.frozen?_setCell]; exact y0
  · rw [World.frozen?_setCell]; exact y1
  · rw [endsL_snoc]
    have : ints (endsL ps ++ [sumL ps + lenE e]) = ints (endsL ps) ++ [.int .i64 (sumL ps + lenE e)] := by simp [ints]
    rw [this]
    exact own_gg hE5 (set_grown _ _ _ _) (by omega)
  · refine (Below.grown (hb.mono (Nat.le_of_lt hg)) hg5 (by omega) (fun k hk => Nat.le_of_lt (hr k hk))).setCell (Nat.le_refl _) _

theorem keep7 {W w' : World} {g : Nat} {v0 v1 v2 v3 v4 v5 v6 : Value} (hb : Below W.heap.size W w') (hlt : g < W.heap.size)
    (h : W.cell? ⟨g, 0, none⟩ = some v0 ∧ W.cell? ⟨g, 1, none⟩ = some v1 ∧ W.cell? ⟨g, 2, none⟩ = some v2 ∧ W.cell? ⟨g, 3, none⟩ = some v3 ∧ W.cell? ⟨g, 4, none⟩ = some v4 ∧ W.cell? ⟨g, 5, none⟩ = some v5 ∧ W.cell? ⟨g, 6, none⟩ = some v6) :
    w'.cell? ⟨g, 0, none⟩ = some v0 ∧ w'.cell? ⟨g, 1, none⟩ = some v1 ∧ w'.cell? ⟨g, 2, none⟩ = some v2 ∧ w'.cell? ⟨g, 3, none⟩ = some v3 ∧ w'.cell? ⟨g, 4, none⟩ = some v4 ∧ w'.cell? ⟨g, 5, none⟩ = some v5 ∧ w'.cell? ⟨g, 6, none⟩ = some v6 := by
  obtain ⟨h0, h1, h2, h3, h4, h5, h6⟩ := h
  exact ⟨(later_cell hb hlt).trans h0, (later_cell hb hlt).trans h1, (later_cell hb hlt).trans h2, (later_cell hb hlt).trans h3, (later_cell hb hlt).trans h4, (later_cell hb hlt).trans h5, (later_cell hb hlt).trans h6⟩
theorem keepg {W V w5 : World} {h g j : Nat} {row : Option Nat} {u v0 v1 v2 v3 v4 v5 v6 : Value} (hg : V.grownBy w5 row) (hb : Below W.heap.size W V) (hk : ∀ k, row = some k → k < h) (hlt : h < W.heap.size) (hne : g ≠ h)
    (H : W.cell? ⟨h, 0, none⟩ = some v0 ∧ W.cell? ⟨h, 1, none⟩ = some v1 ∧ W.cell? ⟨h, 2, none⟩ = some v2 ∧ W.cell? ⟨h, 3, none⟩ = some v3 ∧ W.cell? ⟨h, 4, none⟩ = some v4 ∧ W.cell? ⟨h, 5, none⟩ = some v5 ∧ W.cell? ⟨h, 6, none⟩ = some v6) :
    (w5.cell? ⟨h, 0, none⟩ = some v0 ∧ w5.cell? ⟨h, 1, none⟩ = some v1 ∧ w5.cell? ⟨h, 2, none⟩ = some v2 ∧ w5.cell? ⟨h, 3, none⟩ = some v3 ∧ w5.cell? ⟨h, 4, none⟩ = some v4 ∧ w5.cell? ⟨h, 5, none⟩ = some v5 ∧ w5.cell? ⟨h, 6, none⟩ = some v6) ∧
    ((w5.setCell ⟨g, j, none⟩ u).cell? ⟨h, 0, none⟩ = some v0 ∧ (w5.setCell ⟨g, j, none⟩ u).cell? ⟨h, 1, none⟩ = some v1 ∧ (w5.setCell ⟨g, j, none⟩ u).cell? ⟨h, 2, none⟩ = some v2 ∧ (w5.setCell ⟨g, j, none⟩ u).cell? ⟨h, 3, none⟩ = some v3 ∧
      (w5.setCell ⟨g, j, none⟩ u).cell? ⟨h, 4, none⟩ = some v4 ∧ (w5.setCell ⟨g, j, none⟩ u).cell? ⟨h, 5, none⟩ = some v5 ∧ (w5.setCell ⟨g, j, none⟩ u).cell? ⟨h, 6, none⟩ = some v6) := by
  have hc : ∀ i, w5.cell? ⟨h, i, none⟩ = W.cell? ⟨h, i, none⟩ := fun i =>
    (World.cell?_of_block (a := ⟨h, i, none⟩) (hg.block h (Nat.lt_of_lt_of_le hlt hb.size) (fun e => by have := hk h e.symm; omega))).trans (later_cell hb hlt)
  have hs : ∀ i, (w5.setCell ⟨g, j, none⟩ u).cell? ⟨h, i, none⟩ = w5.cell? ⟨h, i, none⟩ := fun i => World.cell?_setCell_far _ _ _ _ hne
  simp only [hs, hc]
  exact ⟨H, H⟩
theorem moved_no {e : Ed} (h : moved e = false) : e.x0 = e.x1 ∧ e.y0 = e.y1 := by
  simpa [moved] using h
theorem moved_x {e : Ed} (h : e.x0 ≠ e.x1) : moved e = true := by simp [moved, h]
theorem moved_y {e : Ed} (h : e.y0 ≠ e.y1) : moved e = true := by simp [moved, h]

set_option maxHeartbeats 2000000 in
theorem add_no (e : Ed) (g m n : Nat) (ps : List Ed) (w : World) (h : WSt w g m n ps) (hm : moved e = false) :
    Calls Tryz.prog 155 #[.agg #[.int .i64 e.x0, .int .i64 e.y0, .bool e.bent, .int .i64 e.cx, .int .i64 e.cy, .int .i64 e.x1, .int .i64 e.y1], .pointer (some ⟨g, 0, none⟩)] w
      fun r w' => r = .returned (.tuple #[]) ∧ WSt w' g w'.heap.size n ps ∧ Below g w w' ∧ Kept w w' m := by
  have hg : g < w.heap.size := by obtain ⟨_, _, _, _, _, _, _, _, _, _, hg, _⟩ := h; exact hg
  obtain ⟨h1, h2⟩ := moved_no hm
  have hx : (e.x0 == e.x1) = true := by simp [h1]
  have hy : (e.y0 == e.y1) = true := by simp [h2]
  have hx' : (e.x0 != e.x1) = false := by simp [h1]
  have hy' : (e.y0 != e.y1) = false := by simp [h2]
  clear h1 h2 hm
  go_enter Tryz.func155, Tryz.ntmps155
  go_wp2
  go_end0
  exact ⟨rfl, (h.below (bal (Below.refl _ _) _)).top, (bal (Below.refl w.heap.size w) _).mono (Nat.le_of_lt hg), Kept.of (bal (Below.refl _ _) _)⟩

/-- Two loads, named: they are branched over, not taken first. -/
def ldEnds : Oper := ⟨some 22, .load 28 (.tmp 21), 28, "dash.go:66", #[⟨0, .data⟩], none⟩
theorem ldEnds_is : (⟨some 22, .load 28 (.tmp 21), 28, "dash.go:66", #[⟨0, .data⟩], none⟩ : Oper) = ldEnds := rfl
def ldWay : Oper := ⟨some 23, .load 169 (.tmp 1), 169, "dash.go:66", #[], none⟩
theorem ldWay_is : (⟨some 23, .load 169 (.tmp 1), 169, "dash.go:66", #[], none⟩ : Oper) = ldWay := rfl
attribute [local go_sem] ldEnds ldWay

set_option maxRecDepth 100000 in
set_option maxHeartbeats 4000000 in
theorem add_yes (e : Ed) (g m n : Nat) (ps : List Ed) (w : World) (h : WSt w g m n ps) (hm : moved e = true) (hs : Strt e) (hp : ∀ d ∈ ps, Strt d) (hf : n ≤ 900) :
    Calls Tryz.prog 155 #[.agg #[.int .i64 e.x0, .int .i64 e.y0, .bool e.bent, .int .i64 e.cx, .int .i64 e.cy, .int .i64 e.x1, .int .i64 e.y1], .pointer (some ⟨g, 0, none⟩)] w
      fun r w' => r = .returned (.tuple #[]) ∧ WSt w' g w'.heap.size (n + 1) (ps ++ [e]) ∧ Below g w w' ∧ Kept w w' m := by
  obtain ⟨Ap, Ae, cp, ce, ⟨hgm, hms, hmA, hmE⟩, hl, c0, c1, f0, f1, hg, hA, hE⟩ := h
  have HMA := Lib.hid hmA
  have HME := Lib.hid hmE
  have HGM : Hid (g < m) := hgm
  clear hmA hmE hgm
  have HP := Lib.hid hp
  have HS := Lib.hid hs
  have HL := Lib.hid hl
  have hsp : 0 ≤ sumL ps ∧ sumL ps ≤ 30000000 := by
    have := sumL_bd (l := ps) (fun d hd => (hp d hd).2)
    have := sumL_nonneg ps
    omega
  have hlm := lenE_bd hs.2
  obtain ⟨sp, hspe⟩ : ∃ sp, sp = sumL ps := ⟨_, rfl⟩
  obtain ⟨lm, hlme⟩ : ∃ lm, lm = lenE e := ⟨_, rfl⟩
  rw [← hspe] at hsp
  rw [← hlme] at hlm
  have HSP := Lib.hid hspe
  have HLM := Lib.hid hlme
  clear hspe hlme
  have hd : (e.x0 != e.x1) = true ∨ ((e.x0 != e.x1) = false ∧ (e.y0 != e.y1) = true) := by
    by_cases h1 : e.x0 = e.x1
    · right
      refine ⟨by simp [h1], ?_⟩
      simp [moved, h1] at hm; simpa using hm
    · left; simp [h1]
  clear hp hs hl hm
  rcases hd with hx | ⟨hx, hy⟩
  all_goals
    go_enter Tryz.func155, Tryz.ntmps155
    go_wp2_with (at_builtin; refine wpList_app rfl _ _ 109 rfl (g + 1) edT2 rfl (own_below hA (bal (bal (Below.refl _ _) _) _)) (edc e) rfl (sl_newN _ (by simp) rfl) (oneCell_edc _) (by omega) (by simp; omega) ?_; intro A2 c2 w3 hown3 hg3 hat3; obtain ⟨hkm, ⟨x0, y0⟩, hx4⟩ := add_mid (m := m) (w := (w.alloc (.cells #[.int .i64 e.x0, .int .i64 e.y0, .bool e.bent, .int .i64 e.cx, .int .i64 e.cy, .int .i64 e.x1, .int .i64 e.y1] 112)).alloc (.cells #[.int .i64 e.x0, .int .i64 e.y0, .bool e.bent, .int .i64 e.cx, .int .i64 e.cy, .int .i64 e.x1, .int .i64 e.y1] 112)) (e := e) ((later_cell (bal (bal (Below.refl _ _) _) _) hg).trans c0) ((later_cell (bal (bal (Below.refl _ _) _) _) hg).trans c1) ((later_frozen (bal (bal (Below.refl _ _) _) _) hg).trans f0) ((later_frozen (bal (bal (Below.refl _ _) _) _) hg).trans f1) (by simp; omega) (own_below hA (bal (bal (Below.refl _ _) _) _)) (own_below hE (bal (bal (Below.refl _ _) _) _)) hown3 hg3 HGM.out HMA.out; have HX4 := Lib.hid hx4; have HKM := Lib.hid hkm; clear hx4 hkm)
    obtain ⟨⟨x1, x2, y1, y2, hg4⟩, hA4, hE4, B4⟩ := HX4.out
    have hbx : ∀ j, (w3.setCell ⟨g, 0, none⟩ (.slice A2 (n + 1) c2)).cell? ⟨w.heap.size, j, none⟩ = (#[Value.int .i64 e.x0, Value.int .i64 e.y0, Value.bool e.bent, Value.int .i64 e.cx, Value.int .i64 e.cy, Value.int .i64 e.x1, Value.int .i64 e.y1] : Array Value)[j]? := fun j => by
      rw [World.cell?_setCell_far _ _ _ _ (by show g ≠ w.heap.size; omega)]
      exact box_kept hA hg3 j
    have b0 : (w3.setCell ⟨g, 0, none⟩ (.slice A2 (n + 1) c2)).cell? ⟨w.heap.size, 0, none⟩ = some (.int .i64 e.x0) := hbx 0
    have b1 : (w3.setCell ⟨g, 0, none⟩ (.slice A2 (n + 1) c2)).cell? ⟨w.heap.size, 1, none⟩ = some (.int .i64 e.y0) := hbx 1
    have b2 : (w3.setCell ⟨g, 0, none⟩ (.slice A2 (n + 1) c2)).cell? ⟨w.heap.size, 2, none⟩ = some (.bool e.bent) := hbx 2
    have b3 : (w3.setCell ⟨g, 0, none⟩ (.slice A2 (n + 1) c2)).cell? ⟨w.heap.size, 3, none⟩ = some (.int .i64 e.cx) := hbx 3
    have b4 : (w3.setCell ⟨g, 0, none⟩ (.slice A2 (n + 1) c2)).cell? ⟨w.heap.size, 4, none⟩ = some (.int .i64 e.cy) := hbx 4
    have b5 : (w3.setCell ⟨g, 0, none⟩ (.slice A2 (n + 1) c2)).cell? ⟨w.heap.size, 5, none⟩ = some (.int .i64 e.x1) := hbx 5
    have b6 : (w3.setCell ⟨g, 0, none⟩ (.slice A2 (n + 1) c2)).cell? ⟨w.heap.size, 6, none⟩ = some (.int .i64 e.y1) := hbx 6
    have hw4 : ((w.alloc (.cells #[.int .i64 e.x0, .int .i64 e.y0, .bool e.bent, .int .i64 e.cx, .int .i64 e.cy, .int .i64 e.x1, .int .i64 e.y1] 112)).alloc (.cells #[.int .i64 e.x0, .int .i64 e.y0, .bool e.bent, .int .i64 e.cx, .int .i64 e.cy, .int .i64 e.x1, .int .i64 e.y1] 112)).heap.size ≤ (w3.setCell ⟨g, 0, none⟩ (.slice A2 (n + 1) c2)).heap.size := by have := hg3.size; simpa [World.setCell] using this
    have hwl : w.heap.size < (w3.setCell ⟨g, 0, none⟩ (.slice A2 (n + 1) c2)).heap.size := by have := hg3.size; simp [World.setCell] at this ⊢; omega
    have hEk : ∀ k, Value.ownBlock (.slice Ae n ce) = some k → k < w.heap.size := fun k hk => (hE.lt k hk).2
    have HEK := Lib.hid hEk
    have hgw : g ≠ w.heap.size := by omega
    have HGW := Lib.hid hgw
    clear HX4 hbx hown3 hg3 hat3 x0 y0 hA hE c0 c1 f0 f1 hEk hgw
    generalize w3.setCell ⟨g, 0, none⟩ (.slice A2 (n + 1) c2) = W4 at *
    have hS0 := And.intro b0 (And.intro b1 (And.intro b2 (And.intro b3 (And.intro b4 (And.intro b5 b6)))))
    have hsum : IntKind.i64.wrap (sp + lm) = sp + lm := IntWalk.i64_in _ (by omega)
    rw [ldEnds_is, ldWay_is]
    go_region_held3 (fun w' => w'.cell? ⟨w.heap.size, 0, none⟩ = some (.int .i64 e.x0) ∧ w'.cell? ⟨w.heap.size, 1, none⟩ = some (.int .i64 e.y0) ∧ w'.cell? ⟨w.heap.size, 2, none⟩ = some (.bool e.bent) ∧ w'.cell? ⟨w.heap.size, 3, none⟩ = some (.int .i64 e.cx) ∧ w'.cell? ⟨w.heap.size, 4, none⟩ = some (.int .i64 e.cy) ∧ w'.cell? ⟨w.heap.size, 5, none⟩ = some (.int .i64 e.x1) ∧ w'.cell? ⟨w.heap.size, 6, none⟩ = some (.int .i64 e.y1))
      (first | with_reducible exact hs5 | with_reducible exact hs6 | with_reducible exact keep7 (W := W4) BL hwl hS0 | with_reducible exact keep7 (W := W4) BM hwl hS0 | with_reducible exact keep7 (W := W4) (bal BL _) hwl hS0 | with_reducible exact keep7 (W := W4) (bal BM _) hwl hS0 | go_keep)
      (first
        | (go_at_call 125; refine (way_long_e _ _ _ _ _ _ ps _ HL.out (by omega) ((own_sl hE4).below (by repeat (first | with_reducible exact BM | with_reducible exact Below.refl _ _ | with_reducible refine bal ?_ _ | with_reducible refine bdrew ?_)))).mono ?_; rintro e' wL ⟨rfl, hbL⟩; rw [← HSP.out]; have BL : Below W4.heap.size W4 wL := btr (by repeat (first | with_reducible exact BM | with_reducible exact Below.refl _ _ | with_reducible refine bal ?_ _ | with_reducible refine bdrew ?_)) hbL; have l0 := (later_cell BL hg4).trans x1; have l1 := (later_cell BL hg4).trans x2; have lz := Nat.lt_of_lt_of_le hg4 BL.size; have lw := Nat.lt_of_lt_of_le hwl BL.size; clear hbL)
        | (go_at_call 156; refine (dash_Long_any e _ HS.out).mono ?_; rintro e' wM ⟨rfl, hbM⟩; rw [← HLM.out]; have BM : Below W4.heap.size W4 wM := btr (by repeat (first | with_reducible exact BL | with_reducible exact Below.refl _ _ | with_reducible refine bal ?_ _ | with_reducible refine bdrew ?_)) hbM; have m0 := (later_cell BM hg4).trans x1; have m1 := (later_cell BM hg4).trans x2; have mz := Nat.lt_of_lt_of_le hg4 BM.size; have mw := Nat.lt_of_lt_of_le hwl BM.size; clear hbM)
        | (refine step_app (by rfl) _ _ 28 (by rfl) (g + 1) inT2 (by rfl) (own_below hE4 (by repeat (first | with_reducible exact BL | with_reducible exact BM | with_reducible exact Below.refl _ _ | with_reducible refine bal ?_ _ | with_reducible refine bdrew ?_))) (ints [sp + lm]) (by rfl) (sl_newN _ (by simp) rfl) (oneCell_ints _) (by omega) (by simp; omega) ?_; intro A5 c5 w5 hown5 hg5 hat5; obtain ⟨hs5, hs6⟩ := keepg (u := .slice A5 (n + 1) c5) (g := g) (j := 1) hg5 (by repeat (first | with_reducible exact BL | with_reducible exact BM | with_reducible exact Below.refl _ _ | with_reducible refine bal ?_ _ | with_reducible refine bdrew ?_)) HEK.out hwl HGW.out hS0; obtain ⟨hke, ⟨z1, z2⟩, hst, hbe⟩ := add_end HL.out x1 x2 y1 y2 hg4 hA4 hE4 (by repeat (first | with_reducible exact BL | with_reducible exact BM | with_reducible exact Below.refl _ _ | with_reducible refine bal ?_ _ | with_reducible refine bdrew ?_)) (by rw [← HSP.out, ← HLM.out]; exact hown5) hg5 HGM.out HME.out; have HKE := Lib.hid hke; clear hke; have HST := Lib.hid hst; have HBE := Lib.hid hbe; clear hst hbe hown5 hg5 hat5))
    all_goals
      go_end0
      exact ⟨rfl, HST.out, (((bal (bal (Below.refl w.heap.size w) _) _).mono (Nat.le_of_lt hg)).trans B4).trans HBE.out, ((Kept.of (bal (bal (Below.refl _ _) _) _)).tr (bal (bal (Below.refl _ _) _) _).size HKM.out).tr (Nat.le_of_lt hwl) HKE.out⟩

theorem add_any (e : Ed) (g m n : Nat) (ps : List Ed) (w : World) (h : WSt w g m n ps) (hs : Strt e) (hp : ∀ d ∈ ps, Strt d) (hf : n ≤ 900) :
    Calls Tryz.prog 155 #[.agg #[.int .i64 e.x0, .int .i64 e.y0, .bool e.bent, .int .i64 e.cx, .int .i64 e.cy, .int .i64 e.x1, .int .i64 e.y1], .pointer (some ⟨g, 0, none⟩)] w
      fun r w' => r = .returned (.tuple #[]) ∧ WSt w' g w'.heap.size (ps ++ [e].filter moved).length (ps ++ [e].filter moved) ∧ Below g w w' ∧ Kept w w' m := by
  have hl : ps.length = n := by obtain ⟨_, _, _, _, _, hl, _⟩ := h; exact hl
  cases hm : moved e
  · have : ps ++ [e].filter moved = ps := by simp [hm]
    rw [this, hl]
    exact add_no e g m n ps w h hm
  · have : ps ++ [e].filter moved = ps ++ [e] := by simp [hm]
    rw [this, List.length_append, hl]
    exact add_yes e g m n ps w h hm hs hp hf
end Go.Proofs.YtdfkbbcoolgfiaaGreat

namespace Go.Proofs.YtdfkbbcoolgfiaaGreat
open Go.RowKit

theorem filter_take (es : List Ed) (k : Nat) (h : k < es.length) : (es.take (k + 1)).filter moved = (es.take k).filter moved ++ [es[k]].filter moved := by
  rw [List.take_succ_eq_append_getElem h, List.filter_append]
theorem endX_take (x : Int) (es : List Ed) (k : Nat) (h : k < es.length) : endX x (es.take (k + 1)) = es[k].x1 := by rw [List.take_succ_eq_append_getElem h, endX_snoc]
theorem endY_take (y : Int) (es : List Ed) (k : Nat) (h : k < es.length) : endY y (es.take (k + 1)) = es[k].y1 := by rw [List.take_succ_eq_append_getElem h, endY_snoc]
theorem piecesC_shut {c : Ct} (h : c.shut = true) : piecesC c = c.es.filter moved ++ [backE c].filter moved := by
  unfold piecesC; rw [h]; cases hm : moved (backE c) <;> simp [hm]
theorem piecesC_open {c : Ct} (h : c.shut = false) : piecesC c = c.es.filter moved := by
  unfold piecesC; rw [h]; simp
theorem backE_strt {c : Ct} (h : GoodC c) : Strt (backE c) := by
  obtain ⟨h1, h2⟩ := end_co h.2.1 h.2.2.1 h.2.2.2
  have h3 := h.2.2
  rw [co_iff, co_iff] at h3
  rw [co_iff] at h1 h2
  exact ⟨rfl, edOK_mk h1 h2 (by omega) (by omega) h3.1 h3.2 (.inr ⟨rfl, rfl⟩)⟩
/-- What the way's two rows are when it is handed back. -/
theorem WSt.out {w : World} {g m n : Nat} {ps : List Ed} (h : WSt w g m n ps) (hb : ∀ e ∈ ps, Strt e ∧ moved e = true) (hn : n ≤ 1000) :
    ∃ (Ap Ae : Option Addr) (cp ce : Nat), w.cell? ⟨g, 0, none⟩ = some (.slice Ap n cp) ∧ w.cell? ⟨g, 1, none⟩ = some (.slice Ae n ce) ∧ Hid (∀ (w' : World) (k : Nat), k < g + 1 → w.grownBy w' (some k) → WayIn w' Ap Ae n ps) ∧ Hid (∀ a, Ap = some a ∨ Ae = some a → g + 1 ≤ a.block) := by
  obtain ⟨Ap, Ae, cp, ce, _, hl, c0, c1, f0, f1, hg', hA, hE⟩ := h
  refine ⟨Ap, Ae, cp, ce, c0, c1, fun w' k hk hg => ⟨hl, hn, hb, own_sl (own_gg hA hg hk), own_sl (own_gg hE hg hk)⟩, fun a ha => ?_⟩
  rcases ha with rfl | rfl
  · exact (hA.lt _ rfl).1
  · exact (hE.lt _ rfl).1
theorem two_set {w : World} {g : Nat} {u0 u1 v0 v1 : Value} (r0 : w.cell? ⟨g, 0, none⟩ = some u0) (r1 : w.cell? ⟨g, 1, none⟩ = some u1) :
    ((w.setCell ⟨g, 0, none⟩ v0).setCell ⟨g, 1, none⟩ v1).cell? ⟨g, 0, none⟩ = some v0 ∧ ((w.setCell ⟨g, 0, none⟩ v0).setCell ⟨g, 1, none⟩ v1).cell? ⟨g, 1, none⟩ = some v1 := by
  have h0 : (w.setCell ⟨g, 0, none⟩ v0).cell? ⟨g, 0, none⟩ = some v0 := World.cell?_setCell_same _ _ _ r0
  have h1 : (w.setCell ⟨g, 0, none⟩ v0).cell? ⟨g, 1, none⟩ = some u1 := by rw [World.cell?_setCell_other w ⟨g, 0, none⟩ ⟨g, 1, none⟩ _ (by simp)]; exact r1
  refine ⟨?_, World.cell?_setCell_same _ _ _ h1⟩
  rw [World.cell?_setCell_other _ ⟨g, 1, none⟩ ⟨g, 0, none⟩ _ (by simp)]; exact h0
theorem new_way (W : World) (g : Nat) (hg : W.heap.size = g) : WSt (W.alloc (.cells #[.slice none 0 0, .slice none 0 0] 169)) g (W.alloc (.cells #[.slice none 0 0, .slice none 0 0] 169)).heap.size 0 [] := by
  subst hg
  refine ⟨none, none, 0, 0, ⟨by simp, Nat.le_refl _, fun k hk => by simp [Value.ownBlock] at hk, fun k hk => by simp [Value.ownBlock] at hk⟩, rfl, new_cell _ 0, new_cell _ 1, frozen_of_row _ _ _ _ _ (heap_alloc_new W _), frozen_of_row _ _ _ _ _ (heap_alloc_new W _), by simp, own_nil, own_nil⟩

set_option maxRecDepth 100000 in
set_option maxHeartbeats 4000000 in
theorem walk_any (ct : Ct) (A : Option Addr) (n c : Nat) (w : World) (hn : n ≤ 400) (h : Sl w 7 A n (eds ct.es)) (hgd : GoodC ct) (hbt : ∀ e ∈ ct.es, e.bent = false) :
    Calls Tryz.prog 124 #[.agg #[.int .i64 ct.x, .int .i64 ct.y, .slice A n c, .bool ct.shut]] w
      fun e w' => ∃ (Ap Ae : Option Addr) (cp ce : Nat), e = .returned (.agg #[.slice Ap (piecesC ct).length cp, .slice Ae (piecesC ct).length ce]) ∧ WayIn w' Ap Ae (piecesC ct).length (piecesC ct) ∧ Below w.heap.size w w' ∧ ∀ a, Ap = some a ∨ Ae = some a → w.heap.size ≤ a.block := by
  have hl := h.edlen
  have hbk := backE_strt hgd
  have hok := piecesC_ok hgd hbt
  have HBK := Lib.hid hbk
  have HOK := Lib.hid hok
  have hst : ∀ e ∈ ct.es, Strt e := fun e he => ⟨hbt e he, hgd.2.1 e he⟩
  have HST := Lib.hid hst
  have HL := Lib.hid hl
  clear hbk hok hgd hbt hst hl
  go_enter Tryz.func124, Tryz.ntmps124
  go_wp2
  obtain ⟨W1, hW1⟩ : ∃ W1 : World, W1 = ((w.alloc (.cells #[.int .i64 ct.x, .int .i64 ct.y, .slice A n c, .bool ct.shut] 167)).alloc (.cells #[.slice none 0 0, .slice none 0 0] 169)).alloc (.cells #[.slice none 0 0, .slice none 0 0] 169) := ⟨_, rfl⟩
  have hB1 : Below w.heap.size w W1 := by rw [hW1]; exact bal (bal (bal (Below.refl _ _) _) _) _
  have hz1 : W1.heap.size = w.heap.size + 1 + 1 + 1 := by rw [hW1]; simp
  have hS1 : WSt W1 (w.heap.size + 1 + 1) W1.heap.size 0 [] := by rw [hW1]; exact new_way _ _ (by simp)
  have hbx : ∀ j, W1.cell? ⟨w.heap.size, j, none⟩ = (#[Value.int .i64 ct.x, Value.int .i64 ct.y, Value.slice A n c, Value.bool ct.shut] : Array Value)[j]? := fun j => by
    rw [hW1]; exact (later_cell (bal (bal (Below.refl _ _) _) _) (by simp)).trans (new_cell _ j)
  have hrs : ∀ j, W1.cell? ⟨w.heap.size + 1, j, none⟩ = (#[Value.slice none 0 0, Value.slice none 0 0] : Array Value)[j]? ∧ W1.frozen? ⟨w.heap.size + 1, j, none⟩ = false := fun j => by
    have e : w.heap.size + 1 = (w.alloc (.cells #[.int .i64 ct.x, .int .i64 ct.y, .slice A n c, .bool ct.shut] 167)).heap.size := by simp
    rw [hW1, e]
    exact ⟨(later_cell (bal (Below.refl _ _) _) (by simp)).trans (new_cell _ j), (later_frozen (bal (Below.refl _ _) _) (by simp)).trans (frozen_of_row _ _ _ _ _ (heap_alloc_new _ _))⟩
  have b0 : W1.cell? ⟨w.heap.size, 0, none⟩ = some (.int .i64 ct.x) := hbx 0
  have b1 : W1.cell? ⟨w.heap.size, 1, none⟩ = some (.int .i64 ct.y) := hbx 1
  have b2 : W1.cell? ⟨w.heap.size, 2, none⟩ = some (.slice A n c) := hbx 2
  have b3 : W1.cell? ⟨w.heap.size, 3, none⟩ = some (.bool ct.shut) := hbx 3
  have HRS := Lib.hid hrs
  have HZ := Lib.hid hz1
  have hzw : w.heap.size < W1.heap.size := by omega
  rw [← hW1]
  clear hbx hrs hW1 hz1
  go_quiet (fail)
  go_wp2
  go_loopw [5, 6, 17] (fun x y i wr => ∃ (k : Nat) (ps : List Ed) (x' y' : Int) (m : Nat), k ≤ n ∧ x = .int .i64 x' ∧ y = .int .i64 y' ∧ i = .int .i64 (k : Int) ∧ Below (w.heap.size + 1 + 1) W1 wr ∧ WSt wr (w.heap.size + 1 + 1) wr.heap.size m ps ∧
    Hid (ps = (ct.es.take k).filter moved ∧ x' = endX ct.x (ct.es.take k) ∧ y' = endY ct.y (ct.es.take k) ∧ m = ps.length)) (fun _ _ i _ => n - (intOf i).toNat)
  case atStart => exact ⟨0, [], ct.x, ct.y, 0, by omega, rfl, rfl, rfl, (bdrewN (Below.refl _ _) _).mono (by have := HZ.out; omega), hS1.below (bdrewN (Below.refl _ _) _), by simp [Hid, endX, endY]⟩
  case round =>
    obtain ⟨wo, rfl⟩ : ∃ wo : World, wo = wr := ⟨_, rfl⟩
    obtain ⟨k, ps, x, y, m, hk, rfl, rfl, rfl, hbr, hws, hps⟩ := hrel
    have hgl : w.heap.size + 1 + 1 < wo.heap.size := by obtain ⟨_, _, _, _, _, _, _, _, _, _, hg, _⟩ := hws; exact hg
    by_cases hlt : k < n
    · have hkl : k < ct.es.length := by rw [HL.out]; exact hlt
      obtain ⟨b, off, rfl, hb, e0, e1, e2, e3, e4, e5, e6⟩ := h.ed k hlt hkl
      have hse := HST.out _ (List.getElem_mem hkl)
      have hft := filter_take ct.es k hkl
      have hxt := endX_take ct.x ct.es k hkl
      have hyt := endY_take ct.y ct.es k hkl
      obtain ⟨ed, hed⟩ : ∃ ed, ed = ct.es[k] := ⟨_, rfl⟩
      rw [← hed] at e0 e1 e2 e3 e4 e5 e6 hse hft hxt hyt
      have hcs : ∀ o, wo.cell? ⟨b, o, none⟩ = w.cell? ⟨b, o, none⟩ := fun o => (hbr.cell (p := ⟨b, o, none⟩) (by show b < _; omega)).trans (later_cell hB1 hb)
      replace e0 := (hcs _).trans e0
      replace e1 := (hcs _).trans e1
      replace e2 := (hcs _).trans e2
      replace e3 := (hcs _).trans e3
      replace e4 := (hcs _).trans e4
      replace e5 := (hcs _).trans e5
      replace e6 := (hcs _).trans e6
      have hstp : ∀ d ∈ ps, Strt d := fun d hd => by
        rw [hps.out.1, List.mem_filter] at hd
        exact HST.out d (List.mem_of_mem_take hd.1)
      have hm9 : m ≤ 400 := by
        have h1 := hps.out.1
        have h2 := List.length_filter_le moved (ct.es.take k)
        rw [List.length_take] at h2
        rw [hps.out.2.2.2, h1]; omega
      have HSE := Lib.hid hse
      have HFT := Lib.hid hft
      have HXT := Lib.hid hxt
      have HYT := Lib.hid hyt
      have HSTP := Lib.hid hstp
      clear hcs hed hse hft hxt hyt hstp
      go_wp2_with (go_at_call 155; refine (add_any ed (w.heap.size + 1 + 1) wo.heap.size m ps _ (hws.below (bal (Below.refl _ _) _)) HSE.out HSTP.out (by omega)).mono ?_; rintro e' w2 ⟨rfl, hws2, hb2, hk2⟩)
      have hd : ∀ j, w2.cell? ⟨wo.heap.size, j, none⟩ = (#[Value.int .i64 ed.x0, Value.int .i64 ed.y0, Value.bool ed.bent, Value.int .i64 ed.cx, Value.int .i64 ed.cy, Value.int .i64 ed.x1, Value.int .i64 ed.y1] : Array Value)[j]? := fun j =>
        (World.cell?_of_block (a := ⟨wo.heap.size, j, none⟩) (hk2 _ (Nat.le_refl _) (by simp))).trans (new_cell _ j)
      have d5 : w2.cell? ⟨wo.heap.size, 5, none⟩ = some (.int .i64 ed.x1) := hd 5
      have d6 : w2.cell? ⟨wo.heap.size, 6, none⟩ = some (.int .i64 ed.y1) := hd 6
      clear hd hk2
      go_quiet (fail)
      go_wp2
      have hbn := ((hbr.trans ((bal (Below.refl wo.heap.size wo) _).mono (Nat.le_of_lt hgl))).trans hb2).trans ((bdrewN (Below.refl w2.heap.size w2) nq).mono (by obtain ⟨_, _, _, _, _, _, _, _, _, _, hg, _⟩ := hws2; exact Nat.le_of_lt hg))
      have hwn := hws2.below (bdrewN (Below.refl w2.heap.size w2) nq)
      go_roundw
      case rel => exact ⟨k + 1, _, ed.x1, ed.y1, _, by omega, rfl, rfl, by go_num, hbn, hwn, by rw [HFT.out, HXT.out, HYT.out, ← hps.out.1]; exact ⟨rfl, rfl, rfl, rfl⟩⟩
      case measure => simp [intOf]; omega
    · obtain rfl : k = n := by omega
      have htk : ct.es.take k = ct.es := List.take_of_length_le (by rw [HL.out]; omega)
      have hps' : ps = ct.es.filter moved ∧ x = endX ct.x ct.es ∧ y = endY ct.y ct.es ∧ m = ps.length := by have := hps.out; rwa [htk] at this
      have hstp : ∀ d ∈ ps, Strt d := fun d hd => by
        rw [hps'.1, List.mem_filter] at hd
        exact HST.out d hd.1
      have hm9 : m ≤ 400 := by
        have h1 := hps'.1
        have h2 := List.length_filter_le moved ct.es
        have h3 := HL.out
        rw [hps'.2.2.2, h1]; omega
      have hbx : ∀ o, wo.cell? ⟨w.heap.size, o, none⟩ = W1.cell? ⟨w.heap.size, o, none⟩ := fun o => hbr.cell (p := ⟨w.heap.size, o, none⟩) (by show w.heap.size < _; omega)
      replace b0 := (hbx 0).trans b0
      replace b1 := (hbx 1).trans b1
      replace b3 := (hbx 3).trans b3
      have hn9 : (piecesC ct).length ≤ 1000 := by have := piecesC_len ct; have := HL.out; omega
      have HN9 : Hid ((piecesC ct).length ≤ 1000) := hn9
      have HPS := Lib.hid hps'
      have HSTP := Lib.hid hstp
      have hzo : w.heap.size < wo.heap.size := by omega
      clear htk hps hps' hstp hbx
      rcases Bool.eq_false_or_eq_true ct.shut with hsh | hsh
      · have hpc := piecesC_shut hsh
        have HPC := Lib.hid hpc
        have HBE : Hid (backE ct = ⟨x, y, false, 0, 0, ct.x, ct.y⟩) := by unfold backE; rw [HPS.out.2.1, HPS.out.2.2.1]; rfl
        clear hpc
        have hes := HBE.out
        have hps2 : ps ++ [(⟨x, y, false, 0, 0, ct.x, ct.y⟩ : Ed)].filter moved = piecesC ct := by rw [HPC.out, HPS.out.1, ← HBE.out]
        have HP2 := Lib.hid hps2
        clear hes hps2
        go_wp2_with (go_at_call 155; refine (add_any ⟨x, y, false, 0, 0, ct.x, ct.y⟩ (w.heap.size + 1 + 1) wo.heap.size m ps _ hws (by rw [← HBE.out]; exact HBK.out) HSTP.out (by omega)).mono ?_; rintro e' w2 ⟨rfl, hws2, hb2, hk2⟩; rw [HP2.out] at hws2; obtain ⟨Ap, Ae, cp, ce, p0, p1, HW, HAB⟩ := hws2.out HOK.out HN9.out; have hbw := hbr.trans hb2; have hgz : w.heap.size + 1 + 1 < w2.heap.size := (by obtain ⟨_, _, _, _, _, _, _, _, _, _, hg, _⟩ := hws2; exact hg); have r0 : w2.cell? ⟨w.heap.size + 1, 0, none⟩ = some (.slice none 0 0) := (hbw.cell (p := ⟨w.heap.size + 1, 0, none⟩) (by show w.heap.size + 1 < w.heap.size + 1 + 1; omega)).trans (HRS.out 0).1; have r1 : w2.cell? ⟨w.heap.size + 1, 1, none⟩ = some (.slice none 0 0) := (hbw.cell (p := ⟨w.heap.size + 1, 1, none⟩) (by show w.heap.size + 1 < w.heap.size + 1 + 1; omega)).trans (HRS.out 1).1; have s0 : w2.frozen? ⟨w.heap.size + 1, 0, none⟩ = false := (hbw.frozen (p := ⟨w.heap.size + 1, 0, none⟩) (by show w.heap.size + 1 < w.heap.size + 1 + 1; omega)).trans (HRS.out 0).2; have s1 : w2.frozen? ⟨w.heap.size + 1, 1, none⟩ = false := (hbw.frozen (p := ⟨w.heap.size + 1, 1, none⟩) (by show w.heap.size + 1 < w.heap.size + 1 + 1; omega)).trans (HRS.out 1).2; clear hws2 hk2)
        obtain ⟨q0, q1⟩ := two_set (v0 := .slice Ap (piecesC ct).length cp) (v1 := .slice Ae (piecesC ct).length ce) r0 r1
        have hway := HW.out _ (w.heap.size + 1) (by omega) (gtr (set_grown w2 (w.heap.size + 1) 0 (.slice Ap (piecesC ct).length cp)) (set_grown _ (w.heap.size + 1) 1 (.slice Ae (piecesC ct).length ce)))
        have hbF := ((((hB1.trans (hbw.mono (by omega))).setCell (p := ⟨w.heap.size + 1, 0, none⟩) (by show w.heap.size ≤ w.heap.size + 1; omega) (.slice Ap (piecesC ct).length cp)).setCell (p := ⟨w.heap.size + 1, 1, none⟩) (by show w.heap.size ≤ w.heap.size + 1; omega) (.slice Ae (piecesC ct).length ce)))
        generalize (w2.setCell ⟨w.heap.size + 1, 0, none⟩ (.slice Ap (piecesC ct).length cp)).setCell ⟨w.heap.size + 1, 1, none⟩ (.slice Ae (piecesC ct).length ce) = wF at *
        exact bodyPost_ret (v := .agg #[.slice Ap (piecesC ct).length cp, .slice Ae (piecesC ct).length ce]) (by simp [results, Tryz.results124, go_sem, q0, q1]) rfl ⟨Ap, Ae, cp, ce, rfl, hway, hbF, fun a ha => by have := HAB.out a ha; omega⟩
      · have hpc := piecesC_open hsh
        have hps2 : ps = piecesC ct := by rw [hpc, HPS.out.1]
        have hm2 : m = (piecesC ct).length := by rw [← hps2]; exact HPS.out.2.2.2
        rw [hps2, hm2] at hws
        obtain ⟨Ap, Ae, cp, ce, p0, p1, HW, HAB⟩ := hws.out HOK.out HN9.out
        have r0 : wo.cell? ⟨w.heap.size + 1, 0, none⟩ = some (.slice none 0 0) := (hbr.cell (p := ⟨w.heap.size + 1, 0, none⟩) (by show w.heap.size + 1 < w.heap.size + 1 + 1; omega)).trans (HRS.out 0).1
        have r1 : wo.cell? ⟨w.heap.size + 1, 1, none⟩ = some (.slice none 0 0) := (hbr.cell (p := ⟨w.heap.size + 1, 1, none⟩) (by show w.heap.size + 1 < w.heap.size + 1 + 1; omega)).trans (HRS.out 1).1
        have s0 : wo.frozen? ⟨w.heap.size + 1, 0, none⟩ = false := (hbr.frozen (p := ⟨w.heap.size + 1, 0, none⟩) (by show w.heap.size + 1 < w.heap.size + 1 + 1; omega)).trans (HRS.out 0).2
        have s1 : wo.frozen? ⟨w.heap.size + 1, 1, none⟩ = false := (hbr.frozen (p := ⟨w.heap.size + 1, 1, none⟩) (by show w.heap.size + 1 < w.heap.size + 1 + 1; omega)).trans (HRS.out 1).2
        clear hpc hps2 hm2 hws
        go_wp2
        obtain ⟨q0, q1⟩ := two_set (v0 := .slice Ap (piecesC ct).length cp) (v1 := .slice Ae (piecesC ct).length ce) r0 r1
        have hway := HW.out _ (w.heap.size + 1) (by omega) (gtr (set_grown wo (w.heap.size + 1) 0 (.slice Ap (piecesC ct).length cp)) (set_grown _ (w.heap.size + 1) 1 (.slice Ae (piecesC ct).length ce)))
        have hbF := ((((hB1.trans (hbr.mono (by omega))).setCell (p := ⟨w.heap.size + 1, 0, none⟩) (by show w.heap.size ≤ w.heap.size + 1; omega) (.slice Ap (piecesC ct).length cp)).setCell (p := ⟨w.heap.size + 1, 1, none⟩) (by show w.heap.size ≤ w.heap.size + 1; omega) (.slice Ae (piecesC ct).length ce)))
        generalize (wo.setCell ⟨w.heap.size + 1, 0, none⟩ (.slice Ap (piecesC ct).length cp)).setCell ⟨w.heap.size + 1, 1, none⟩ (.slice Ae (piecesC ct).length ce) = wF at *
        exact bodyPost_ret (v := .agg #[.slice Ap (piecesC ct).length cp, .slice Ae (piecesC ct).length ce]) (by simp [results, Tryz.results124, go_sem, q0, q1]) rfl ⟨Ap, Ae, cp, ce, rfl, hway, hbF, fun a ha => by have := HAB.out a ha; omega⟩
end Go.Proofs.YtdfkbbcoolgfiaaGreat

namespace Go.Proofs.YtdfkbbcoolgfiaaGreat
open Go.RowKit

theorem sgT2 : SlT Tryz.prog 24 63 5 40 := slT_of Tryz.underlying24 (by kernel_rfl) (by omega) (by omega)
theorem keep3 {W w' : World} {g o b i j : Nat} {u v0 v1 : Value} (hb : Below W.heap.size W w') (hg : g < W.heap.size) (hlt : b < W.heap.size)
    (h : W.cell? ⟨g, o, none⟩ = some u ∧ W.cell? ⟨b, i, none⟩ = some v0 ∧ W.cell? ⟨b, j, none⟩ = some v1) : w'.cell? ⟨g, o, none⟩ = some u ∧ w'.cell? ⟨b, i, none⟩ = some v0 ∧ w'.cell? ⟨b, j, none⟩ = some v1 := by
  obtain ⟨h', h0, h1⟩ := h
  exact ⟨(later_cell hb hg).trans h', (later_cell hb hlt).trans h0, (later_cell hb hlt).trans h1⟩
theorem inn_len (ps : List Ed) (k : Nat) (a b : Int) : (innW (ps.take k) a b).length ≤ k := by
  have h1 := innF_len (ps.take k) 0 a b
  rw [List.length_take] at h1
  unfold innW; omega

set_option maxRecDepth 100000 in
set_option maxHeartbeats 4000000 in
theorem part_any (Ap Ae : Option Addr) (n cp ce : Nat) (ps : List Ed) (a b : Int) (w : World) (h : WayIn w Ap Ae n ps) (h0 : 0 < n) (ha0 : 0 ≤ a) (ha1 : a ≤ sumL ps) (hb0 : 0 ≤ b) (hb1 : b ≤ sumL ps) :
    Calls Tryz.prog 126 #[.agg #[.slice Ap n cp, .slice Ae n ce], .int .i64 a, .int .i64 b] w
      fun e w' => ∃ (A : Option Addr) (c : Nat), e = .returned (.slice A (partW ps a b).length c) ∧ w'.ownsRow w.heap.size 63 5 (.slice A (partW ps a b).length c) (partW ps a b).length (sgs (partW ps a b)) ∧ Below w.heap.size w w' := by
  have hf := h.few
  have hl := h.len
  have HL := Lib.hid hl
  clear hl
  go_enter Tryz.func126, Tryz.ntmps126
  go_wp2_with fail
  have hB0 := bal (Below.refl w.heap.size w) (.cells #[.slice Ap n cp, .slice Ae n ce] 169)
  have c0 := new_cell (w := w) (t := 169) #[.slice Ap n cp, .slice Ae n ce] 0
  have c1 := new_cell (w := w) (t := 169) #[.slice Ap n cp, .slice Ae n ce] 1
  have hz0 : w.heap.size < (w.alloc (.cells #[.slice Ap n cp, .slice Ae n ce] 169)).heap.size := by simp
  refine (way_at_any Ap Ae n cp ce ps a _ (h.below hB0) h0 ha0 ha1).mono ?_; rintro e w1 ⟨rfl, hbA⟩
  have B1 := btr hB0 hbA
  have C0 : w1.cell? ⟨w.heap.size, 0, none⟩ = some (.slice Ap n cp) := (later_cell hbA hz0).trans c0
  have C1 : w1.cell? ⟨w.heap.size, 1, none⟩ = some (.slice Ae n ce) := (later_cell hbA hz0).trans c1
  have hz1 : w.heap.size < w1.heap.size := Nat.lt_of_lt_of_le hz0 hbA.size
  clear hB0 c0 c1 hz0 hbA
  obtain ⟨s0, hs0⟩ : ∃ s0 : Sg, s0 = ⟨1, (atW ps a).1, (atW ps a).2, 0, 0⟩ := ⟨_, rfl⟩
  have HS0 := Lib.hid hs0
  obtain ⟨x, hx⟩ : ∃ x, x = (atW ps a).1 := ⟨_, rfl⟩
  obtain ⟨y, hy⟩ : ∃ y, y = (atW ps a).2 := ⟨_, rfl⟩
  rw [← hx, ← hy] at hs0 HS0
  rw [← hx, ← hy]
  have HX := Lib.hid hx
  have HY := Lib.hid hy
  clear hs0 hx hy
  go_wp2
  have hown1 := own_new (w := w1) (t := 63) (n := 1) (s := 5) (base := w1.heap.size) (sgc ⟨1, x, y, 0, 0⟩) rfl rfl (Nat.le_refl _) (by omega)
  go_loopw [9, 25] (fun out i wr => ∃ (k m : Nat) (A : Option Addr) (c : Nat), k ≤ n ∧ out = .slice A m c ∧ i = .int .i64 (k : Int) ∧ Below w1.heap.size w1 wr ∧ wr.ownsRow w1.heap.size 63 5 (.slice A m c) m (sgs (⟨1, x, y, 0, 0⟩ :: innW (ps.take k) a b)) ∧ m ≤ k + 1) (fun _ i _ => n - (intOf i).toNat)
  case atStart => exact ⟨0, 1, _, 1, by omega, rfl, rfl, bal (Below.refl _ _) _, hown1, by omega⟩
  case round =>
    obtain ⟨wo, rfl⟩ : ∃ wo : World, wo = wr := ⟨_, rfl⟩
    obtain ⟨k, m, A, c, hk, rfl, rfl, hbr, hown, hmk⟩ := hrel
    have D0 := (later_cell hbr hz1).trans C0
    have D1 := (later_cell hbr hz1).trans C1
    have hzo := Nat.lt_of_lt_of_le hz1 hbr.size
    by_cases hlt : k < n
    · have hkl : k < ps.length := by rw [HL.out]; exact hlt
      obtain ⟨be, oe, rfl, hbe, e0⟩ := h.endAt k hlt
      obtain ⟨bp, op, rfl, hbp, -, -, -, -, -, p5, p6⟩ := h.p.ed k hlt hkl
      have hit := innW_take ps k hkl a b
      obtain ⟨ed, hed⟩ : ∃ ed, ed = ps[k] := ⟨_, rfl⟩
      obtain ⟨te, hte⟩ : ∃ te, te = sumL (ps.take (k + 1)) := ⟨_, rfl⟩
      rw [← hed] at p5 p6 hit
      rw [← hte] at e0 hit
      have hBo := btr B1 hbr
      replace e0 := (later_cell hBo hbe).trans e0
      have hS1 := And.intro C0 (And.intro ((later_cell B1 hbp).trans p5) ((later_cell B1 hbp).trans p6))
      have hzp := Nat.lt_of_lt_of_le hbp B1.size
      replace p5 := (later_cell hBo hbp).trans p5
      replace p6 := (later_cell hBo hbp).trans p6
      have hbp1 : bp < wo.heap.size := Nat.lt_of_lt_of_le hbp hBo.size
      have HIT := Lib.hid hit
      clear hed hte hit
      by_cases hin : a < te ∧ te < b
      · have hi1 := hin.1
        have hi2 := hin.2
        have HE : Hid (innE te ed a b = [⟨2, ed.x1, ed.y1, 0, 0⟩]) := by show _ = _; unfold innE; rw [if_pos hin]
        clear hin
        go_wp2
        have hS0 := And.intro D0 (And.intro p5 p6)
        go_region_held3 (fun w' => w'.cell? ⟨w.heap.size, 0, none⟩ = some (.slice (some ⟨bp, op, none⟩) n cp) ∧ w'.cell? ⟨bp, op + k * 7 + 5, none⟩ = some (.int .i64 ed.x1) ∧ w'.cell? ⟨bp, op + k * 7 + 6, none⟩ = some (.int .i64 ed.y1))
          (first | with_reducible exact hs5 | go_keep)
          ((refine step_app (by rfl) _ _ 24 (by rfl) w1.heap.size sgT2 (by rfl) (own_below hown (by repeat (first | with_reducible exact Below.refl _ _ | with_reducible refine bal ?_ _ | with_reducible refine bdrew ?_))) (sgc ⟨2, ed.x1, ed.y1, 0, 0⟩) (by rfl) (sl_newN _ (by simp) rfl) (oneCell_sgc _) (by omega) (by have := hbr.size; simp; omega) ?_; intro A5 c5 w5 hown5 hg5 hat5; have hb5 : Below w1.heap.size w1 w5 := grown_below (btr hbr (by repeat (first | with_reducible exact Below.refl _ _ | with_reducible refine bal ?_ _ | with_reducible refine bdrew ?_))) hg5 (own_below hown (by repeat (first | with_reducible exact Below.refl _ _ | with_reducible refine bal ?_ _ | with_reducible refine bdrew ?_))); have hs5 := keep3 (W := w1) hb5 hz1 hzp hS1))
        go_wp2
        have hnew : sgs (⟨1, x, y, 0, 0⟩ :: innW (ps.take (k + 1)) a b) = sgs (⟨1, x, y, 0, 0⟩ :: innW (ps.take k) a b) ++ sgc ⟨2, ed.x1, ed.y1, 0, 0⟩ := by rw [HIT.out, HE.out, ← List.cons_append, sgs_app, sgs_one]
        have HNEW := Lib.hid hnew
        clear hnew
        go_roundw
        case rel => exact ⟨k + 1, m + 1, A5, c5, by omega, rfl, by go_num, hb5, by rw [HNEW.out]; exact hown5, by omega⟩
        case measure => simp [intOf]; omega
      · have HE : Hid (innE te ed a b = []) := by show _ = _; unfold innE; rw [if_neg hin]
        have hnew : sgs (⟨1, x, y, 0, 0⟩ :: innW (ps.take (k + 1)) a b) = sgs (⟨1, x, y, 0, 0⟩ :: innW (ps.take k) a b) := by rw [HIT.out, HE.out, List.append_nil]
        have HNEW := Lib.hid hnew
        clear hnew
        by_cases hi1 : a < te
        · have hi2 : b ≤ te := by omega
          clear hin
          go_wp2
          go_roundw
          case rel => exact ⟨k + 1, m, A, c, by omega, rfl, by go_num, hbr, by rw [HNEW.out]; exact hown, by omega⟩
          case measure => simp [intOf]; omega
        · clear hin
          go_wp2
          go_roundw
          case rel => exact ⟨k + 1, m, A, c, by omega, rfl, by go_num, hbr, by rw [HNEW.out]; exact hown, by omega⟩
          case measure => simp [intOf]; omega
    · obtain rfl : k = n := by omega
      have htk : ps.take k = ps := List.take_of_length_le (by rw [HL.out]; omega)
      rw [htk] at hown
      have hwo := h.below (btr B1 hbr)
      clear htk
      go_wp2_with fail
      refine (way_at_any Ap Ae k cp ce ps b _ hwo h0 hb0 hb1).mono ?_; rintro e w2 ⟨rfl, hb2⟩
      have B2 := btr (btr B1 hbr) hb2
      have hb12 := btr hbr hb2
      have hown2 := own_below hown hb2
      obtain ⟨x2, hx2⟩ : ∃ x, x = (atW ps b).1 := ⟨_, rfl⟩
      obtain ⟨y2, hy2⟩ : ∃ y, y = (atW ps b).2 := ⟨_, rfl⟩
      rw [← hx2, ← hy2]
      have hpw : partW ps a b = (⟨1, x, y, 0, 0⟩ :: innW ps a b) ++ [⟨2, x2, y2, 0, 0⟩] := by unfold partW; rw [← HX.out, ← HY.out, ← hx2, ← hy2]; rfl
      have hml : m = (⟨1, x, y, 0, 0⟩ :: innW ps a b : List Sg).length := by have := (own_sl hown2).sglen; omega
      have hpl : (partW ps a b).length = m + 1 := by rw [hpw, List.length_append, ← hml]; rfl
      have HPW := Lib.hid hpw
      have HPL := Lib.hid hpl
      have hsz := hb12.size
      clear hx2 hy2 hpw hpl hml hbr hown hwo
      go_wp2_with (at_builtin; refine wpList_app rfl _ _ 24 rfl w1.heap.size sgT2 rfl (own_below hown2 (bal (Below.refl _ _) _)) (sgc ⟨2, x2, y2, 0, 0⟩) rfl (sl_newN _ (by simp) rfl) (oneCell_sgc _) (by omega) (by simp; omega) ?_; intro A5 c5 w5 hown5 hg5 hat5)
      go_ret
      refine ⟨A5, c5, by rw [HPL.out]; rfl, ?_, btr B1 (grown_below (bal hb12 _) hg5 (own_below hown2 (bal (Below.refl _ _) _)))⟩
      rw [HPL.out, HPW.out, sgs_app, sgs_one]
      exact own_mono hown5 B1.size
end Go.Proofs.YtdfkbbcoolgfiaaGreat
