/- dash.walk: a contour's way. -/
import Derived.Test.YtacolepcpbhceaaDash3
namespace Go.Proofs.Ytacolepcpbhceaa
open Go.RowKit

theorem filter_take (es : List Ed) (k : Nat) (h : k < es.length) : (es.take (k + 1)).filter moved = (es.take k).filter moved ++ [es[k]].filter moved := by
  rw [List.take_succ_eq_append_getElem h, List.filter_append]
theorem endX_take (x : Int) (es : List Ed) (k : Nat) (h : k < es.length) : endX x (es.take (k + 1)) = es[k].x1 := by rw [List.take_succ_eq_append_getElem h, endX_snoc]
theorem endY_take (y : Int) (es : List Ed) (k : Nat) (h : k < es.length) : endY y (es.take (k + 1)) = es[k].y1 := by rw [List.take_succ_eq_append_getElem h, endY_snoc]
theorem piecesC_shut {c : Ct} (h : c.shut = true) : piecesC c = c.es.filter moved ++ [backE c].filter moved := by
  unfold piecesC; rw [h]; cases hm : moved (backE c) <;> simp [hm]
theorem piecesC_open {c : Ct} (h : c.shut = false) : piecesC c = c.es.filter moved := by
  unfold piecesC; rw [h]; simp
theorem backE_strt {c : Ct} (h : GoodC c) : Strt (backE c) := by
  obtain ⟨h1, h2⟩ := end_co h.2.1 h.2.2.1 h.2.2.2
  have h3 := h.2.2
  rw [co_iff, co_iff] at h3
  rw [co_iff] at h1 h2
  exact ⟨rfl, edOK_mk h1 h2 (by omega) (by omega) h3.1 h3.2 (.inr ⟨rfl, rfl⟩)⟩
/-- What the way's two rows are when it is handed back. -/
theorem WSt.out {w : World} {g m n : Nat} {ps : List Ed} (h : WSt w g m n ps) (hb : ∀ e ∈ ps, Strt e ∧ moved e = true) (hn : n ≤ 1000) :
    ∃ (Ap Ae : Option Addr) (cp ce : Nat), w.cell? ⟨g, 0, none⟩ = some (.slice Ap n cp) ∧ w.cell? ⟨g, 1, none⟩ = some (.slice Ae n ce) ∧ Hid (∀ (w' : World) (k : Nat), k < g + 1 → w.grownBy w' (some k) → WayIn w' Ap Ae n ps) ∧ Hid (∀ a, Ap = some a ∨ Ae = some a → g + 1 ≤ a.block) := by
  obtain ⟨Ap, Ae, cp, ce, _, hl, c0, c1, f0, f1, hg', hA, hE⟩ := h
  refine ⟨Ap, Ae, cp, ce, c0, c1, fun w' k hk hg => ⟨hl, hn, hb, own_sl (own_gg hA hg hk), own_sl (own_gg hE hg hk)⟩, fun a ha => ?_⟩
  rcases ha with rfl | rfl
  · exact (hA.lt _ rfl).1
  · exact (hE.lt _ rfl).1
theorem two_set {w : World} {g : Nat} {u0 u1 v0 v1 : Value} (r0 : w.cell? ⟨g, 0, none⟩ = some u0) (r1 : w.cell? ⟨g, 1, none⟩ = some u1) :
    ((w.setCell ⟨g, 0, none⟩ v0).setCell ⟨g, 1, none⟩ v1).cell? ⟨g, 0, none⟩ = some v0 ∧ ((w.setCell ⟨g, 0, none⟩ v0).setCell ⟨g, 1, none⟩ v1).cell? ⟨g, 1, none⟩ = some v1 := by
  have h0 : (w.setCell ⟨g, 0, none⟩ v0).cell? ⟨g, 0, none⟩ = some v0 := World.cell?_setCell_same _ _ _ r0
  have h1 : (w.setCell ⟨g, 0, none⟩ v0).cell? ⟨g, 1, none⟩ = some u1 := by rw [World.cell?_setCell_other w ⟨g, 0, none⟩ ⟨g, 1, none⟩ _ (by simp)]; exact r1
  refine ⟨?_, World.cell?_setCell_same _ _ _ h1⟩
  rw [World.cell?_setCell_other _ ⟨g, 1, none⟩ ⟨g, 0, none⟩ _ (by simp)]; exact h0
theorem new_way (W : World) (g : Nat) (hg : W.heap.size = g) : WSt (W.alloc (.cells #[.slice none 0 0, .slice none 0 0] 67)) g (W.alloc (.cells #[.slice none 0 0, .slice none 0 0] 67)).heap.size 0 [] := by
  subst hg
  refine ⟨none, none, 0, 0, ⟨by simp, Nat.le_refl _, fun k hk => by simp [Value.ownBlock] at hk, fun k hk => by simp [Value.ownBlock] at hk⟩, rfl, new_cell _ 0, new_cell _ 1, frozen_of_row _ _ _ _ _ (heap_alloc_new W _), frozen_of_row _ _ _ _ _ (heap_alloc_new W _), by simp, own_nil, own_nil⟩

set_option maxRecDepth 100000 in
set_option maxHeartbeats 4000000 in
theorem walk_any (ct : Ct) (A : Option Addr) (n c : Nat) (w : World) (hn : n ≤ 400) (h : Sl w 7 A n (eds ct.es)) (hgd : GoodC ct) (hbt : ∀ e ∈ ct.es, e.bent = false) :
    Calls Try.prog 28 #[.agg #[.int .i64 ct.x, .int .i64 ct.y, .slice A n c, .bool ct.shut]] w
      fun e w' => ∃ (Ap Ae : Option Addr) (cp ce : Nat), e = .returned (.agg #[.slice Ap (piecesC ct).length cp, .slice Ae (piecesC ct).length ce]) ∧ WayIn w' Ap Ae (piecesC ct).length (piecesC ct) ∧ Below w.heap.size w w' ∧ ∀ a, Ap = some a ∨ Ae = some a → w.heap.size ≤ a.block := by
  have hl := h.edlen
  have hbk := backE_strt hgd
  have hok := piecesC_ok hgd hbt
  have HBK := Lib.hid hbk
  have HOK := Lib.hid hok
  have hst : ∀ e ∈ ct.es, Strt e := fun e he => ⟨hbt e he, hgd.2.1 e he⟩
  have HST := Lib.hid hst
  have HL := Lib.hid hl
  clear hbk hok hgd hbt hst hl
  go_enter Try.func28, Try.ntmps28
  go_wp2
  obtain ⟨W1, hW1⟩ : ∃ W1 : World, W1 = ((w.alloc (.cells #[.int .i64 ct.x, .int .i64 ct.y, .slice A n c, .bool ct.shut] 43)).alloc (.cells #[.slice none 0 0, .slice none 0 0] 67)).alloc (.cells #[.slice none 0 0, .slice none 0 0] 67) := ⟨_, rfl⟩
  have hB1 : Below w.heap.size w W1 := by rw [hW1]; exact bal (bal (bal (Below.refl _ _) _) _) _
  have hz1 : W1.heap.size = w.heap.size + 1 + 1 + 1 := by rw [hW1]; simp
  have hS1 : WSt W1 (w.heap.size + 1 + 1) W1.heap.size 0 [] := by rw [hW1]; exact new_way _ _ (by simp)
  have hbx : ∀ j, W1.cell? ⟨w.heap.size, j, none⟩ = (#[Value.int .i64 ct.x, Value.int .i64 ct.y, Value.slice A n c, Value.bool ct.shut] : Array Value)[j]? := fun j => by
    rw [hW1]; exact (later_cell (bal (bal (Below.refl _ _) _) _) (by simp)).trans (new_cell _ j)
  have hrs : ∀ j, W1.cell? ⟨w.heap.size + 1, j, none⟩ = (#[Value.slice none 0 0, Value.slice none 0 0] : Array Value)[j]? ∧ W1.frozen? ⟨w.heap.size + 1, j, none⟩ = false := fun j => by
    have e : w.heap.size + 1 = (w.alloc (.cells #[.int .i64 ct.x, .int .i64 ct.y, .slice A n c, .bool ct.shut] 43)).heap.size := by simp
    rw [hW1, e]
    exact ⟨(later_cell (bal (Below.refl _ _) _) (by simp)).trans (new_cell _ j), (later_frozen (bal (Below.refl _ _) _) (by simp)).trans (frozen_of_row _ _ _ _ _ (heap_alloc_new _ _))⟩
  have b0 : W1.cell? ⟨w.heap.size, 0, none⟩ = some (.int .i64 ct.x) := hbx 0
  have b1 : W1.cell? ⟨w.heap.size, 1, none⟩ = some (.int .i64 ct.y) := hbx 1
  have b2 : W1.cell? ⟨w.heap.size, 2, none⟩ = some (.slice A n c) := hbx 2
  have b3 : W1.cell? ⟨w.heap.size, 3, none⟩ = some (.bool ct.shut) := hbx 3
  have HRS := Lib.hid hrs
  have HZ := Lib.hid hz1
  have hzw : w.heap.size < W1.heap.size := by omega
  rw [← hW1]
  clear hbx hrs hW1 hz1
  go_quiet (fail)
  go_wp2
  go_loopw [5, 6, 17] (fun x y i wr => ∃ (k : Nat) (ps : List Ed) (x' y' : Int) (m : Nat), k ≤ n ∧ x = .int .i64 x' ∧ y = .int .i64 y' ∧ i = .int .i64 (k : Int) ∧ Below (w.heap.size + 1 + 1) W1 wr ∧ WSt wr (w.heap.size + 1 + 1) wr.heap.size m ps ∧
    Hid (ps = (ct.es.take k).filter moved ∧ x' = endX ct.x (ct.es.take k) ∧ y' = endY ct.y (ct.es.take k) ∧ m = ps.length)) (fun _ _ i _ => n - (intOf i).toNat)
  case atStart => exact ⟨0, [], ct.x, ct.y, 0, by omega, rfl, rfl, rfl, (bdrewN (Below.refl _ _) _).mono (by have := HZ.out; omega), hS1.below (bdrewN (Below.refl _ _) _), by simp [Hid, endX, endY]⟩
  case round =>
    obtain ⟨wo, rfl⟩ : ∃ wo : World, wo = wr := ⟨_, rfl⟩
    obtain ⟨k, ps, x, y, m, hk, rfl, rfl, rfl, hbr, hws, hps⟩ := hrel
    have hgl : w.heap.size + 1 + 1 < wo.heap.size := by obtain ⟨_, _, _, _, _, _, _, _, _, _, hg, _⟩ := hws; exact hg
    by_cases hlt : k < n
    · have hkl : k < ct.es.length := by rw [HL.out]; exact hlt
      obtain ⟨b, off, rfl, hb, e0, e1, e2, e3, e4, e5, e6⟩ := h.ed k hlt hkl
      have hse := HST.out _ (List.getElem_mem hkl)
      have hft := filter_take ct.es k hkl
      have hxt := endX_take ct.x ct.es k hkl
      have hyt := endY_take ct.y ct.es k hkl
      obtain ⟨ed, hed⟩ : ∃ ed, ed = ct.es[k] := ⟨_, rfl⟩
      rw [← hed] at e0 e1 e2 e3 e4 e5 e6 hse hft hxt hyt
      have hcs : ∀ o, wo.cell? ⟨b, o, none⟩ = w.cell? ⟨b, o, none⟩ := fun o => (hbr.cell (p := ⟨b, o, none⟩) (by show b < _; omega)).trans (later_cell hB1 hb)
      replace e0 := (hcs _).trans e0
      replace e1 := (hcs _).trans e1
      replace e2 := (hcs _).trans e2
      replace e3 := (hcs _).trans e3
      replace e4 := (hcs _).trans e4
      replace e5 := (hcs _).trans e5
      replace e6 := (hcs _).trans e6
      have hstp : ∀ d ∈ ps, Strt d := fun d hd => by
        rw [hps.out.1, List.mem_filter] at hd
        exact HST.out d (List.mem_of_mem_take hd.1)
      have hm9 : m ≤ 400 := by
        have h1 := hps.out.1
        have h2 := List.length_filter_le moved (ct.es.take k)
        rw [List.length_take] at h2
        rw [hps.out.2.2.2, h1]; omega
      have HSE := Lib.hid hse
      have HFT := Lib.hid hft
      have HXT := Lib.hid hxt
      have HYT := Lib.hid hyt
      have HSTP := Lib.hid hstp
      clear hcs hed hse hft hxt hyt hstp
      go_wp2_with (go_at_call 47; refine (add_any ed (w.heap.size + 1 + 1) wo.heap.size m ps _ (hws.below (bal (Below.refl _ _) _)) HSE.out HSTP.out (by omega)).mono ?_; rintro e' w2 ⟨rfl, hws2, hb2, hk2⟩)
      have hd : ∀ j, w2.cell? ⟨wo.heap.size, j, none⟩ = (#[Value.int .i64 ed.x0, Value.int .i64 ed.y0, Value.bool ed.bent, Value.int .i64 ed.cx, Value.int .i64 ed.cy, Value.int .i64 ed.x1, Value.int .i64 ed.y1] : Array Value)[j]? := fun j =>
        (World.cell?_of_block (a := ⟨wo.heap.size, j, none⟩) (hk2 _ (Nat.le_refl _) (by simp))).trans (new_cell _ j)
      have d5 : w2.cell? ⟨wo.heap.size, 5, none⟩ = some (.int .i64 ed.x1) := hd 5
      have d6 : w2.cell? ⟨wo.heap.size, 6, none⟩ = some (.int .i64 ed.y1) := hd 6
      clear hd hk2
      go_quiet (fail)
      go_wp2
      have hbn := ((hbr.trans ((bal (Below.refl wo.heap.size wo) _).mono (Nat.le_of_lt hgl))).trans hb2).trans ((bdrewN (Below.refl w2.heap.size w2) nq).mono (by obtain ⟨_, _, _, _, _, _, _, _, _, _, hg, _⟩ := hws2; exact Nat.le_of_lt hg))
      have hwn := hws2.below (bdrewN (Below.refl w2.heap.size w2) nq)
      go_roundw
      case rel => exact ⟨k + 1, _, ed.x1, ed.y1, _, by omega, rfl, rfl, by go_num, hbn, hwn, by rw [HFT.out, HXT.out, HYT.out, ← hps.out.1]; exact ⟨rfl, rfl, rfl, rfl⟩⟩
      case measure => simp [intOf]; omega
    · obtain rfl : k = n := by omega
      have htk : ct.es.take k = ct.es := List.take_of_length_le (by rw [HL.out]; omega)
      have hps' : ps = ct.es.filter moved ∧ x = endX ct.x ct.es ∧ y = endY ct.y ct.es ∧ m = ps.length := by have := hps.out; rwa [htk] at this
      have hstp : ∀ d ∈ ps, Strt d := fun d hd => by
        rw [hps'.1, List.mem_filter] at hd
        exact HST.out d hd.1
      have hm9 : m ≤ 400 := by
        have h1 := hps'.1
        have h2 := List.length_filter_le moved ct.es
        have h3 := HL.out
        rw [hps'.2.2.2, h1]; omega
      have hbx : ∀ o, wo.cell? ⟨w.heap.size, o, none⟩ = W1.cell? ⟨w.heap.size, o, none⟩ := fun o => hbr.cell (p := ⟨w.heap.size, o, none⟩) (by show w.heap.size < _; omega)
      replace b0 := (hbx 0).trans b0
      replace b1 := (hbx 1).trans b1
      replace b3 := (hbx 3).trans b3
      have hn9 : (piecesC ct).length ≤ 1000 := by have := piecesC_len ct; have := HL.out; omega
      have HN9 : Hid ((piecesC ct).length ≤ 1000) := hn9
      have HPS := Lib.hid hps'
      have HSTP := Lib.hid hstp
      have hzo : w.heap.size < wo.heap.size := by omega
      clear htk hps hps' hstp hbx
      rcases Bool.eq_false_or_eq_true ct.shut with hsh | hsh
      · have hpc := piecesC_shut hsh
        have HPC := Lib.hid hpc
        have HBE : Hid (backE ct = ⟨x, y, false, 0, 0, ct.x, ct.y⟩) := by unfold backE; rw [HPS.out.2.1, HPS.out.2.2.1]; rfl
        clear hpc
        have hes := HBE.out
        have hps2 : ps ++ [(⟨x, y, false, 0, 0, ct.x, ct.y⟩ : Ed)].filter moved = piecesC ct := by rw [HPC.out, HPS.out.1, ← HBE.out]
        have HP2 := Lib.hid hps2
        clear hes hps2
        go_wp2_with (go_at_call 47; refine (add_any ⟨x, y, false, 0, 0, ct.x, ct.y⟩ (w.heap.size + 1 + 1) wo.heap.size m ps _ hws (by rw [← HBE.out]; exact HBK.out) HSTP.out (by omega)).mono ?_; rintro e' w2 ⟨rfl, hws2, hb2, hk2⟩; rw [HP2.out] at hws2; obtain ⟨Ap, Ae, cp, ce, p0, p1, HW, HAB⟩ := hws2.out HOK.out HN9.out; have hbw := hbr.trans hb2; have hgz : w.heap.size + 1 + 1 < w2.heap.size := (by obtain ⟨_, _, _, _, _, _, _, _, _, _, hg, _⟩ := hws2; exact hg); have r0 : w2.cell? ⟨w.heap.size + 1, 0, none⟩ = some (.slice none 0 0) := (hbw.cell (p := ⟨w.heap.size + 1, 0, none⟩) (by show w.heap.size + 1 < w.heap.size + 1 + 1; omega)).trans (HRS.out 0).1; have r1 : w2.cell? ⟨w.heap.size + 1, 1, none⟩ = some (.slice none 0 0) := (hbw.cell (p := ⟨w.heap.size + 1, 1, none⟩) (by show w.heap.size + 1 < w.heap.size + 1 + 1; omega)).trans (HRS.out 1).1; have s0 : w2.frozen? ⟨w.heap.size + 1, 0, none⟩ = false := (hbw.frozen (p := ⟨w.heap.size + 1, 0, none⟩) (by show w.heap.size + 1 < w.heap.size + 1 + 1; omega)).trans (HRS.out 0).2; have s1 : w2.frozen? ⟨w.heap.size + 1, 1, none⟩ = false := (hbw.frozen (p := ⟨w.heap.size + 1, 1, none⟩) (by show w.heap.size + 1 < w.heap.size + 1 + 1; omega)).trans (HRS.out 1).2; clear hws2 hk2)
        obtain ⟨q0, q1⟩ := two_set (v0 := .slice Ap (piecesC ct).length cp) (v1 := .slice Ae (piecesC ct).length ce) r0 r1
        have hway := HW.out _ (w.heap.size + 1) (by omega) (gtr (set_grown w2 (w.heap.size + 1) 0 (.slice Ap (piecesC ct).length cp)) (set_grown _ (w.heap.size + 1) 1 (.slice Ae (piecesC ct).length ce)))
        have hbF := ((((hB1.trans (hbw.mono (by omega))).setCell (p := ⟨w.heap.size + 1, 0, none⟩) (by show w.heap.size ≤ w.heap.size + 1; omega) (.slice Ap (piecesC ct).length cp)).setCell (p := ⟨w.heap.size + 1, 1, none⟩) (by show w.heap.size ≤ w.heap.size + 1; omega) (.slice Ae (piecesC ct).length ce)))
        generalize (w2.setCell ⟨w.heap.size + 1, 0, none⟩ (.slice Ap (piecesC ct).length cp)).setCell ⟨w.heap.size + 1, 1, none⟩ (.slice Ae (piecesC ct).length ce) = wF at *
        exact bodyPost_ret (v := .agg #[.slice Ap (piecesC ct).length cp, .slice Ae (piecesC ct).length ce]) (by simp [results, Try.results28, go_sem, q0, q1]) rfl ⟨Ap, Ae, cp, ce, rfl, hway, hbF, fun a ha => by have := HAB.out a ha; omega⟩
      · have hpc := piecesC_open hsh
        have hps2 : ps = piecesC ct := by rw [hpc, HPS.out.1]
        have hm2 : m = (piecesC ct).length := by rw [← hps2]; exact HPS.out.2.2.2
        rw [hps2, hm2] at hws
        obtain ⟨Ap, Ae, cp, ce, p0, p1, HW, HAB⟩ := hws.out HOK.out HN9.out
        have r0 : wo.cell? ⟨w.heap.size + 1, 0, none⟩ = some (.slice none 0 0) := (hbr.cell (p := ⟨w.heap.size + 1, 0, none⟩) (by show w.heap.size + 1 < w.heap.size + 1 + 1; omega)).trans (HRS.out 0).1
        have r1 : wo.cell? ⟨w.heap.size + 1, 1, none⟩ = some (.slice none 0 0) := (hbr.cell (p := ⟨w.heap.size + 1, 1, none⟩) (by show w.heap.size + 1 < w.heap.size + 1 + 1; omega)).trans (HRS.out 1).1
        have s0 : wo.frozen? ⟨w.heap.size + 1, 0, none⟩ = false := (hbr.frozen (p := ⟨w.heap.size + 1, 0, none⟩) (by show w.heap.size + 1 < w.heap.size + 1 + 1; omega)).trans (HRS.out 0).2
        have s1 : wo.frozen? ⟨w.heap.size + 1, 1, none⟩ = false := (hbr.frozen (p := ⟨w.heap.size + 1, 1, none⟩) (by show w.heap.size + 1 < w.heap.size + 1 + 1; omega)).trans (HRS.out 1).2
        clear hpc hps2 hm2 hws
        go_wp2
        obtain ⟨q0, q1⟩ := two_set (v0 := .slice Ap (piecesC ct).length cp) (v1 := .slice Ae (piecesC ct).length ce) r0 r1
        have hway := HW.out _ (w.heap.size + 1) (by omega) (gtr (set_grown wo (w.heap.size + 1) 0 (.slice Ap (piecesC ct).length cp)) (set_grown _ (w.heap.size + 1) 1 (.slice Ae (piecesC ct).length ce)))
        have hbF := ((((hB1.trans (hbr.mono (by omega))).setCell (p := ⟨w.heap.size + 1, 0, none⟩) (by show w.heap.size ≤ w.heap.size + 1; omega) (.slice Ap (piecesC ct).length cp)).setCell (p := ⟨w.heap.size + 1, 1, none⟩) (by show w.heap.size ≤ w.heap.size + 1; omega) (.slice Ae (piecesC ct).length ce)))
        generalize (wo.setCell ⟨w.heap.size + 1, 0, none⟩ (.slice Ap (piecesC ct).length cp)).setCell ⟨w.heap.size + 1, 1, none⟩ (.slice Ae (piecesC ct).length ce) = wF at *
        exact bodyPost_ret (v := .agg #[.slice Ap (piecesC ct).length cp, .slice Ae (piecesC ct).length ce]) (by simp [results, Try.results28, go_sem, q0, q1]) rfl ⟨Ap, Ae, cp, ce, rfl, hway, hbF, fun a ha => by have := HAB.out a ha; omega⟩
end Go.Proofs.Ytacolepcpbhceaa
