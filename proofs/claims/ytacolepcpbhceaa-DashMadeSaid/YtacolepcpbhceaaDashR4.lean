/- Places on the reference's way. -/
import Derived.Test.YtacolepcpbhceaaDashR3
import Derived.Test.YtacolepcpbhceaaDash2
namespace Go.Proofs.Ytacolepcpbhceaa
open Go.RowKit

theorem begL_get (l : List Ed) (i : Nat) (h : i < (begL l).length) : (begL l)[i] = sumL (l.take i) := by simp [begL]
theorem RWayIn.begAt {w : World} {Ap Aa : Option Addr} {n : Nat} {ps : List Ed} (h : RWayIn w Ap Aa n ps) (k : Nat) (hk : k < n) :
    ∃ b off : Nat, Aa = some ⟨b, off, none⟩ ∧ b < w.heap.size ∧ w.cell? ⟨b, off + k, none⟩ = some (.int .i64 (sumL (ps.take k))) := by
  have hl : k < (begL ps).length := by rw [begL_len, h.len]; exact hk
  obtain ⟨b, off, e, hb, hc⟩ := h.a.intAt k hk hl
  rw [begL_get] at hc
  exact ⟨b, off, e, hb, hc⟩
theorem RWayIn.sum {w : World} {Ap Aa : Option Addr} {n : Nat} {ps : List Ed} (h : RWayIn w Ap Aa n ps) (k : Nat) : 0 ≤ sumL (ps.take k) ∧ sumL (ps.take k) ≤ sumL ps ∧ sumL ps ≤ 23167000 := by
  have h1 := sumL_bd (l := ps) (fun e he => (h.all e he).1.2)
  have h2 := h.len
  have h3 := h.few
  exact ⟨sumL_nonneg _, sumL_take_le _ _, by omega⟩

set_option maxRecDepth 100000 in
set_option maxHeartbeats 2000000 in
theorem rway_at_any (Ap Aa : Option Addr) (n cp ca k : Nat) (ps : List Ed) (N s : Int) (w : World) (h : RWayIn w Ap Aa n ps) (hk : k < n) (hkl : k < ps.length) (hs0 : sumL (ps.take k) ≤ s) (hs1 : s ≤ sumL (ps.take (k + 1))) :
    Calls Try.prog 53 #[.agg #[.slice Ap n cp, .slice Aa n ca, .int .i64 N], .int .i64 k, .int .i64 s] w
      fun e w' => e = .returned (.tuple #[.int .i64 (atE ps[k] (s - sumL (ps.take k))).1, .int .i64 (atE ps[k] (s - sumL (ps.take k))).2]) ∧ Below w.heap.size w w' := by
  have hf := h.few
  have hl := h.len
  obtain ⟨b, off, rfl, hb, c0⟩ := h.begAt k hk
  obtain ⟨t0, t1, t2⟩ := h.sum (k + 1)
  have hst := sumL_take ps k hkl
  obtain ⟨u0, u1, u2⟩ := h.sum k
  obtain ⟨bp, op, rfl, hbp, e0, e1, e2, e3, e4, e5, e6⟩ := h.p.ed k hk hkl
  obtain ⟨⟨hbent, hok⟩, hmv⟩ := h.all _ (List.getElem_mem hkl)
  obtain ⟨ed, hed⟩ : ∃ ed, ed = ps[k] := ⟨_, rfl⟩
  rw [← hed] at hst e0 e1 e2 e3 e4 e5 e6 hbent hok hmv ⊢
  have hHS : Strt ed := ⟨hbent, hok⟩
  have hm1 := lenE_pos hok hmv
  have hm2 := (lenE_bd hok).2
  obtain ⟨⟨a0, a1⟩, ⟨a2, a3⟩, -, -, ⟨a4, a5⟩, ⟨a6, a7⟩, -⟩ := edOK_iff.1 hok
  obtain ⟨m, hm⟩ : ∃ m, m = lenE ed := ⟨_, rfl⟩
  obtain ⟨z, hz⟩ : ∃ z, z = sumL (ps.take k) := ⟨_, rfl⟩
  rw [← hz] at hst hs0 u0 u1 c0 ⊢
  rw [← hm] at hst hm1 hm2
  have hq0 : 0 ≤ s - z ∧ s - z ≤ m := by omega
  obtain ⟨⟨x0, x1⟩, x2, x3⟩ := at_bd (x0 := ed.x0) (x1 := ed.x1) (m := m) (k := s - z) ⟨a0, a1⟩ ⟨a4, a5⟩ ⟨hm1, hm2⟩ hq0
  obtain ⟨⟨y0, y1⟩, y2, y3⟩ := at_bd (x0 := ed.y0) (x1 := ed.y1) (m := m) (k := s - z) ⟨a2, a3⟩ ⟨a6, a7⟩ ⟨hm1, hm2⟩ hq0
  have hat : atE ed (s - z) = (rnd (ed.x0 * m + (ed.x1 - ed.x0) * (s - z)) m, rnd (ed.y0 * m + (ed.y1 - ed.y0) * (s - z)) m) := by rw [hm]; rfl
  have HAT := Lib.hid hat
  have HLE := Lib.hid hm
  have HSS := Lib.hid hHS
  clear hst hbent hok hmv hm hz hed hat hHS
  go_enter Try.func53, Try.ntmps53
  go_wp2
  obtain ⟨W0, hW0⟩ : ∃ W0 : World, W0 = w.alloc (.cells #[.slice (some ⟨bp, op, none⟩) n cp, .slice (some ⟨b, off, none⟩) n ca, .int .i64 N] 74) := ⟨_, rfl⟩
  rw [← hW0]
  have g0 : W0.cell? ⟨w.heap.size, 0, none⟩ = some (.slice (some ⟨bp, op, none⟩) n cp) := by rw [hW0]; exact new_cell _ 0
  have g1 : W0.cell? ⟨w.heap.size, 1, none⟩ = some (.slice (some ⟨b, off, none⟩) n ca) := by rw [hW0]; exact new_cell _ 1
  have B0 : Below w.heap.size w W0 := by rw [hW0]; exact bal (Below.refl _ _) _
  have hz0 : w.heap.size < W0.heap.size := by rw [hW0]; simp
  have hzp : bp < W0.heap.size := by omega
  have hzb : b < W0.heap.size := by omega
  replace c0 := (later_cell B0 hb).trans c0
  replace e0 := (later_cell B0 hbp).trans e0
  replace e1 := (later_cell B0 hbp).trans e1
  replace e2 := (later_cell B0 hbp).trans e2
  replace e3 := (later_cell B0 hbp).trans e3
  replace e4 := (later_cell B0 hbp).trans e4
  replace e5 := (later_cell B0 hbp).trans e5
  replace e6 := (later_cell B0 hbp).trans e6
  have hS0 := And.intro g0 (And.intro e0 (And.intro e1 (And.intro e2 (And.intro e3 (And.intro e4 (And.intro e5 e6))))))
  clear hW0 h
  go_region_held3 (fun w' => w'.cell? ⟨w.heap.size, 0, none⟩ = some (.slice (some ⟨bp, op, none⟩) n cp) ∧ w'.cell? ⟨bp, op + k * 7, none⟩ = some (.int .i64 ed.x0) ∧ w'.cell? ⟨bp, op + k * 7 + 1, none⟩ = some (.int .i64 ed.y0) ∧ w'.cell? ⟨bp, op + k * 7 + 2, none⟩ = some (.bool ed.bent) ∧
      w'.cell? ⟨bp, op + k * 7 + 3, none⟩ = some (.int .i64 ed.cx) ∧ w'.cell? ⟨bp, op + k * 7 + 4, none⟩ = some (.int .i64 ed.cy) ∧ w'.cell? ⟨bp, op + k * 7 + 5, none⟩ = some (.int .i64 ed.x1) ∧ w'.cell? ⟨bp, op + k * 7 + 6, none⟩ = some (.int .i64 ed.y1)) (first | with_reducible exact keep8 (W := W0) BA hz0 hzp hS0 | with_reducible exact keep8 (W := W0) (bal BA _) hz0 hzp hS0 | with_reducible exact keep8 (W := W0) (bset7 BA (Nat.le_refl _)) hz0 hzp hS0 | go_keep)
    ((go_at_call 52; refine (ref_Long_any ed _ HSS.out).mono ?_; rintro e' w' ⟨rfl, hbA⟩; rw [← HLE.out]; have BA : Below W0.heap.size W0 w' := btr (by repeat (first | exact Below.refl _ _ | refine bal ?_ _ | refine bdrew ?_ | refine bdrewN ?_ _)) hbA; have hzA : w.heap.size < w'.heap.size := Nat.lt_of_lt_of_le hz0 BA.size; have hzP : bp < w'.heap.size := Nat.lt_of_lt_of_le hzp BA.size;
      first | (have hbB : Below (W0.alloc (.cells #[.int .i64 0, .int .i64 0, .bool false, .int .i64 0, .int .i64 0, .int .i64 0, .int .i64 0] 45)).heap.size (W0.alloc (.cells #[.int .i64 0, .int .i64 0, .bool false, .int .i64 0, .int .i64 0, .int .i64 0, .int .i64 0] 45)) w' := ⟨hbA.os, hbA.tape, hbA.output, hbA.size, hbA.block⟩; obtain ⟨f0, z0, hzW⟩ := fz_new hbB (g := W0.heap.size) rfl 0; obtain ⟨f1, z1, -⟩ := fz_new hbB (g := W0.heap.size) rfl 1; obtain ⟨f2, z2, -⟩ := fz_new hbB (g := W0.heap.size) rfl 2; obtain ⟨f3, z3, -⟩ := fz_new hbB (g := W0.heap.size) rfl 3; obtain ⟨f4, z4, -⟩ := fz_new hbB (g := W0.heap.size) rfl 4; obtain ⟨f5, z5, -⟩ := fz_new hbB (g := W0.heap.size) rfl 5; obtain ⟨f6, z6, -⟩ := fz_new hbB (g := W0.heap.size) rfl 6; clear hbA hbB) | clear hbA))
  all_goals (clear hS0)
  · obtain ⟨W2, hW2⟩ : ∃ W2 : World, W2 = w'.alloc (.cells #[.int .i64 ed.x0, .int .i64 ed.y0, .bool ed.bent, .int .i64 ed.cx, .int .i64 ed.cy, .int .i64 ed.x1, .int .i64 ed.y1] 45) := ⟨_, rfl⟩
    rw [← hW2]
    have hnc := fun j => new_cell (w := w') (t := 45) #[.int .i64 ed.x0, .int .i64 ed.y0, .bool ed.bent, .int .i64 ed.cx, .int .i64 ed.cy, .int .i64 ed.x1, .int .i64 ed.y1] j
    rw [← hW2] at hnc
    have B2 : Below W0.heap.size W0 W2 := by rw [hW2]; exact bal BA _
    have d0 : W2.cell? ⟨w'.heap.size, 0, none⟩ = some (.int .i64 ed.x0) := hnc 0
    have d1 : W2.cell? ⟨w'.heap.size, 1, none⟩ = some (.int .i64 ed.y0) := hnc 1
    have d5 : W2.cell? ⟨w'.heap.size, 5, none⟩ = some (.int .i64 ed.x1) := hnc 5
    have d6 : W2.cell? ⟨w'.heap.size, 6, none⟩ = some (.int .i64 ed.y1) := hnc 6
    clear hnc hW2 BA hzA hzP
    have C0 := (later_cell B2 hzb).trans c0
    have G1 := (later_cell B2 hz0).trans g1
    have BB := btr B0 B2
    clear c0 e0 e1 e2 e3 e4 e5 e6 g0 g1 B2
    generalize w'.heap.size = g at *
    go_wp2
    go_quiet ((go_at_call 65; exact quiet_left (Near_any2 _ _ _ (by omega) (by omega))))
    go_wp2
    go_ret2
    rw [HAT.out]
    exact ⟨rfl, bdrewN BB _⟩
  · obtain ⟨W2, hW2⟩ : ∃ W2 : World, W2 = ((((((w'.setCell ⟨W0.heap.size, 0, none⟩ (.int .i64 ed.x0)).setCell ⟨W0.heap.size, 1, none⟩ (.int .i64 ed.y0)).setCell ⟨W0.heap.size, 2, none⟩ (.bool ed.bent)).setCell ⟨W0.heap.size, 3, none⟩ (.int .i64 ed.cx)).setCell ⟨W0.heap.size, 4, none⟩ (.int .i64 ed.cy)).setCell ⟨W0.heap.size, 5, none⟩ (.int .i64 ed.x1)).setCell ⟨W0.heap.size, 6, none⟩ (.int .i64 ed.y1) := ⟨_, rfl⟩
    rw [← hW2]
    have B2 : Below W0.heap.size W0 W2 := by rw [hW2]; exact bset7 BA (Nat.le_refl _)
    have hnc := cell7 (w := w') (g := W0.heap.size) (v0 := .int .i64 ed.x0) (v1 := .int .i64 ed.y0) (v2 := .bool ed.bent) (v3 := .int .i64 ed.cx) (v4 := .int .i64 ed.cy) (v5 := .int .i64 ed.x1) (v6 := .int .i64 ed.y1) (u := fun j => (#[Value.int .i64 0, Value.int .i64 0, Value.bool false, Value.int .i64 0, Value.int .i64 0, Value.int .i64 0, Value.int .i64 0] : Array Value).getD j undef)
      (by intro j hj; rcases j with _ | _ | _ | _ | _ | _ | _ | j; exact z0; exact z1; exact z2; exact z3; exact z4; exact z5; exact z6; omega)
    rw [← hW2] at hnc
    have d0 : W2.cell? ⟨W0.heap.size, 0, none⟩ = some (.int .i64 ed.x0) := hnc 0 (by omega)
    have d1 : W2.cell? ⟨W0.heap.size, 1, none⟩ = some (.int .i64 ed.y0) := hnc 1 (by omega)
    have d5 : W2.cell? ⟨W0.heap.size, 5, none⟩ = some (.int .i64 ed.x1) := hnc 5 (by omega)
    have d6 : W2.cell? ⟨W0.heap.size, 6, none⟩ = some (.int .i64 ed.y1) := hnc 6 (by omega)
    clear hnc hW2 BA hzA hzP f0 f1 f2 f3 f4 f5 f6 z0 z1 z2 z3 z4 z5 z6 hzW
    have C0 := (later_cell B2 hzb).trans c0
    have G1 := (later_cell B2 hz0).trans g1
    have BB := btr B0 B2
    clear c0 e0 e1 e2 e3 e4 e5 e6 g0 g1 B2
    generalize W0.heap.size = g at *
    go_wp2
    go_quiet ((go_at_call 65; exact quiet_left (Near_any2 _ _ _ (by omega) (by omega))))
    go_wp2
    go_ret2
    rw [HAT.out]
    exact ⟨rfl, bdrewN BB _⟩

end Go.Proofs.Ytacolepcpbhceaa
