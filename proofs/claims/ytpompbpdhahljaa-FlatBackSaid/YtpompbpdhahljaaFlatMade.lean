/- The walk of FlatMade: it returns true. -/
import Derived.Test.YtpompbpdhahljaaFlatSays
import Derived.Test.YtpompbpdhahljaaMade
import Derived.Test.YtpompbpdhahljaaNearP
namespace Go.Proofs.Ytpompbpdhahljaa
open Go.RowKit

theorem plc1_end (a c b n : Int) (hn : 1 ≤ n) : plc1 a c b n n = b := by
  have hnn : 0 < n * n := Int.mul_pos (by omega) (by omega)
  unfold plc1
  have : a * (n - n) * (n - n) + 2 * c * n * (n - n) + b * n * n = b * (n * n) := by grind
  rw [this]; exact rnd_exact b _ hnn
/-- The lines form a chain from the edge's beginning to its end. -/
theorem lns_chain {e : Ed} (h : edOK e = true) : ∃ px py : Nat → Int, (∀ i (hi : i < (lns e).length), (lns e)[i].bent = false ∧ (lns e)[i].x0 = px i ∧ (lns e)[i].y0 = py i ∧ (lns e)[i].x1 = px (i + 1) ∧ (lns e)[i].y1 = py (i + 1)) ∧
    px 0 = e.x0 ∧ py 0 = e.y0 ∧ px (lns e).length = e.x1 ∧ py (lns e).length = e.y1 ∧ 1 ≤ (lns e).length := by
  cases hb : e.bent
  · have hl := lns_flat h hb
    have h1 : (lns e).length = 1 := by rw [hl]; rfl
    refine ⟨fun i => if i = 0 then e.x0 else e.x1, fun i => if i = 0 then e.y0 else e.y1, fun i hi => ?_, rfl, rfl, by rw [h1]; rfl, by rw [h1]; rfl, by omega⟩
    have h0 : i = 0 := by omega
    subst h0
    simp [hl, hb]
  · have hl := lns_yes h hb
    have hn := cntI_bd h hb
    have hc := lns_cast h hb
    refine ⟨plcX e (cntI e), plcY e (cntI e), fun i hi => ?_, rfl, rfl, ?_, ?_, by omega⟩
    · have hs : (lns e)[i] = ⟨plcX e (cntI e) i, plcY e (cntI e) i, false, 0, 0, plcX e (cntI e) (i + 1), plcY e (cntI e) (i + 1)⟩ := by
        simp only [hl]; exact lnsTo_get _ _ _ _ _
      rw [hs]; exact ⟨rfl, rfl, rfl, rfl, rfl⟩
    · unfold plcX; rw [if_neg (by omega), hc]; exact plc1_end _ _ _ _ hn.1
    · unfold plcY; rw [if_neg (by omega), hc]; exact plc1_end _ _ _ _ hn.1

theorem lns_count_cast {e : Ed} (h : edOK e = true) : ((lns e).length : Int) = cntI e := by
  cases hb : e.bent
  · rw [lns_len, cntI_flat h hb]; rfl
  · exact lns_cast h hb

set_option maxRecDepth 100000 in
set_option maxHeartbeats 2000000 in
theorem FlatMade_any (A : Option Addr) (n c : Nat) (A0 : Option Addr) (n0 c0 : Nat) (w : World) (h : InA w A n) (hnc : n ≤ c) (hcm : c ≤ 9223372036854775807) (h0 : InA w A0 n0) (hnc0 : n0 ≤ c0) (hcm0 : c0 ≤ 9223372036854775807) :
    Calls Try.prog 5 #[.slice A n c, .slice A0 n0 c0] w fun e w' => e = .returned (.bool true) ∧ Below w.heap.size w w' := by
  go_enter Try.func5, Try.ntmps5
  go_wp2_with fail
  refine (known27_any _).mono ?_; rintro e w1 ⟨rfl, hb1⟩
  go_wp2_with fail
  refine (Edge_any _ _ (LN_new (h.below hb1) hnc hcm rfl)).mono ?_; rintro e w2 ⟨⟨x0, y0, cx, cy, x1, y1, bent, rfl, ⟨a1, a2⟩, ⟨a3, a4⟩, ⟨a5, a6⟩, ⟨a7, a8⟩, ⟨a9, a10⟩, ⟨a11, a12⟩, hbt⟩, _, hg2⟩
  have B2 : Below w.heap.size w w2 := (bal hb1 (.cells #[.slice A n c] 29)).grown hg2 (bal hb1 (.cells #[.slice A n c] 29)).size (fun q hq => by injection hq with hq; subst hq; exact hb1.size)
  clear hg2 hb1
  have hok : edOK ⟨x0, y0, bent, cx, cy, x1, y1⟩ = true := edOK_mk (by omega) (by omega) (by omega) (by omega) (by omega) (by omega) hbt
  obtain ⟨L, hL⟩ : ∃ L, lns ⟨x0, y0, bent, cx, cy, x1, y1⟩ = L := ⟨_, rfl⟩
  have hcnt := lns_count_cast hok
  obtain ⟨px, py, hch, hp0, hq0, hp1, hq1, hl1⟩ := lns_chain hok
  have hl8 := lns_le ⟨x0, y0, bent, cx, cy, x1, y1⟩
  rw [hL] at hcnt hp1 hq1 hl1 hl8
  have HCH : Hid (∀ i (hi : i < L.length), L[i].bent = false ∧ L[i].x0 = px i ∧ L[i].y0 = py i ∧ L[i].x1 = px (i + 1) ∧ L[i].y1 = py (i + 1)) := fun i hi => by
    have := hch i (by rw [hL]; exact hi)
    simpa only [hL] using this
  obtain ⟨m, hm⟩ : ∃ m, L.length = m := ⟨_, rfl⟩
  rw [hm] at hcnt hp1 hq1 hl1 hl8
  have HP0 := Lib.hid hp0
  have HQ0 := Lib.hid hq0
  have HP1 := Lib.hid hp1
  have HQ1 := Lib.hid hq1
  have HL := Lib.hid hL
  have HM := Lib.hid hm
  have HC := Lib.hid (fun W => Count_is x0 y0 cx cy x1 y1 m bent W hcnt.symm)
  have HE := Lib.hid (fun W => by have := Edges_any x0 y0 cx cy x1 y1 bent L W hL; rw [hm] at this; exact this)
  have HR := Lib.hid (fun W => by have := ref_Lines_any x0 y0 cx cy x1 y1 bent L W hL; rw [hm] at this; exact this)
  clear hL hbt hok hch hp0 hq0 hp1 hq1 hm hcnt
  obtain ⟨gE, hgE⟩ : ∃ gE, w2.heap.size = gE := ⟨_, rfl⟩
  have k2 : Hid ((w2.alloc (.cells #[.int .i64 x0, .int .i64 y0, .bool bent, .int .i64 cx, .int .i64 cy, .int .i64 x1, .int .i64 y1] 25)).heap[gE]? = some (.cells #[.int .i64 x0, .int .i64 y0, .bool bent, .int .i64 cx, .int .i64 cy, .int .i64 x1, .int .i64 y1] 25 (0, 0))) := by rw [← hgE]; exact heap_alloc_new w2 _
  go_wp2_with fail
  refine (HE.out _).mono ?_; rintro e w3 ⟨A3, c3, rfl, hown3, hb3⟩
  have k3 : Hid (w3.heap[gE]? = _) := (hb3.block _ (hid_lt k2)).trans k2.out
  have B3 : Below w.heap.size w w3 := btr (bal B2 _) hb3
  have hs3 := own_sl hown3
  clear hb3 k2 hown3 B2 hgE
  go_wp2_with fail
  refine (Made_any A0 n0 c0 true _ (h0.below B3) hnc0 hcm0).mono ?_; rintro e w4 ⟨l, A4, c4, rfl, hown4, hmd, hb4⟩
  have k4 : Hid (w4.heap[gE]? = _) := (hb4.block _ (hid_lt k3)).trans k3.out
  have B4 : Below w.heap.size w w4 := btr B3 hb4
  have hs4 := hs3.below hb4
  have hp4 := own_sl hown4
  have hl12 := hmd.2.1
  obtain ⟨E, hE⟩ : ∃ E, flatE l = E := ⟨_, rfl⟩
  have hE3 : E.1.length ≤ 300 := by rw [← hE]; exact flatE_le l
  have HFE := Lib.hid hE
  clear hb4 k3 hs3 hown4 B3 hmd hE
  go_wp2_with fail
  refine (flat_Path_any _ _ _ l E _ (by omega) hp4 HFE.out).mono ?_; rintro e w5 ⟨A5, c5, rfl, hown5, hb5⟩
  have k5 : Hid (w5.heap[gE]? = _) := (hb5.block _ (hid_lt k4)).trans k4.out
  have B5 : Below w.heap.size w w5 := btr B4 hb5
  have hs5 := hs4.below hb5
  have hp5 := hp4.below hb5
  have hq5 := own_sl hown5
  clear hb5 k4 hs4 hp4 hown5 B4
  go_wp2_with fail
  refine (ref_Flat_any _ _ _ l E _ (by omega) hp5 HFE.out).mono ?_; rintro e w6 ⟨A6, c6, rfl, hown6, hb6⟩
  have k6 : Hid (w6.heap[gE]? = _) := (hb6.block _ (hid_lt k5)).trans k5.out
  have B6 : Below w.heap.size w w6 := btr B5 hb6
  have hs6 := hs5.below hb6
  have hq6 := hq5.below hb6
  have hr6 := own_sl hown6
  have d0 : w6.cell? ⟨gE, 0, none⟩ = some (.int .i64 x0) := blk_cell 0 k6
  have d1 : w6.cell? ⟨gE, 1, none⟩ = some (.int .i64 y0) := blk_cell 1 k6
  have d2 : w6.cell? ⟨gE, 2, none⟩ = some (.bool bent) := blk_cell 2 k6
  have d3 : w6.cell? ⟨gE, 3, none⟩ = some (.int .i64 cx) := blk_cell 3 k6
  have d4 : w6.cell? ⟨gE, 4, none⟩ = some (.int .i64 cy) := blk_cell 4 k6
  have d5 : w6.cell? ⟨gE, 5, none⟩ = some (.int .i64 x1) := blk_cell 5 k6
  have d6 : w6.cell? ⟨gE, 6, none⟩ = some (.int .i64 y1) := blk_cell 6 k6
  clear hb6 k5 hs5 hp5 hq5 hown6 B5
  go_wp2_with fail
  refine (HR.out _).mono ?_; rintro e w7 ⟨A7, c7, rfl, hown7, hb7⟩
  have k7 : Hid (w7.heap[gE]? = _) := (hb7.block _ (hid_lt k6)).trans k6.out
  have B7 : Below w.heap.size w w7 := btr B6 hb7
  have hs7 := hs6.below hb7
  have hq7 := hq6.below hb7
  have hr7 := hr6.below hb7
  have ht7 := own_sl hown7
  clear hb7 k6 hs6 hq6 hr6 hown7 B6 d0 d1 d2 d3 d4 d5 d6
  go_wp2_with fail
  refine (sameEd_any _ _ _ _ _ _ L _ (by omega) hs7 ht7).mono ?_; rintro e w8 ⟨rfl, q1, rfl⟩
  have d0 : w7.cell? ⟨gE, 0, none⟩ = some (.int .i64 x0) := blk_cell 0 k7
  have d1 : w7.cell? ⟨gE, 1, none⟩ = some (.int .i64 y0) := blk_cell 1 k7
  have d2 : w7.cell? ⟨gE, 2, none⟩ = some (.bool bent) := blk_cell 2 k7
  have d3 : w7.cell? ⟨gE, 3, none⟩ = some (.int .i64 cx) := blk_cell 3 k7
  have d4 : w7.cell? ⟨gE, 4, none⟩ = some (.int .i64 cy) := blk_cell 4 k7
  have d5 : w7.cell? ⟨gE, 5, none⟩ = some (.int .i64 x1) := blk_cell 5 k7
  have d6 : w7.cell? ⟨gE, 6, none⟩ = some (.int .i64 y1) := blk_cell 6 k7
  go_wp2_with fail
  refine (HC.out _).mono ?_; rintro e w9 ⟨rfl, hb9⟩
  have hb9' : Below w7.heap.size w7 w9 := ⟨hb9.os, hb9.tape, hb9.output, hb9.size, hb9.block⟩
  have k9 : Hid (w9.heap[gE]? = _) := (hb9'.block _ (hid_lt k7)).trans k7.out
  have B9 : Below w.heap.size w w9 := btr B7 hb9'
  have hs9 := hs7.below hb9'
  have hq9 := hq7.below hb9'
  have hr9 := hr7.below hb9'
  clear hb9 hb9' k7 hs7 hq7 hr7 B7 d0 d1 d2 d3 d4 d5 d6 ht7
  have hmm : ((m : Int) != (m : Int)) = false := by simp
  go_wp2_with fail
  refine (sameSg_any _ _ _ _ _ _ E.1 _ (by omega) hq9 hr9).mono ?_; rintro e w10 ⟨rfl, q2, rfl⟩
  have hee : (E.2 != E.2) = false := by simp
  have HCE := Lib.hid (show ∀ i, w9.cell? ⟨gE, i, none⟩ = _ from fun i => blk_cell i k9)
  have hg9 := hid_lt k9
  have d0 : w9.cell? ⟨gE, 0, none⟩ = some (.int .i64 x0) := HCE.out 0
  have d1 : w9.cell? ⟨gE, 1, none⟩ = some (.int .i64 y0) := HCE.out 1
  clear hq9 hr9 k9
  go_wp2_with fail
  go_quiet (fail)
  go_wp2_with fail
  clear d0 d1
  go_loopw [12, 13, 14] (fun x y i wr => ∃ j : Nat, j ≤ m ∧ x = .int .i64 (px j) ∧ y = .int .i64 (py j) ∧ i = .int .i64 j ∧ Below w9.heap.size w9 wr) (fun _ _ i _ => m - (intOf i).toNat)
  case atStart => exact ⟨0, by omega, by rw [HP0.out], by rw [HQ0.out], rfl, by first | exact bdrewN (Below.refl _ _) _ | exact bdrewN (bdrewN (Below.refl _ _) _) _⟩
  case round =>
    obtain ⟨j, hj, rfl, rfl, rfl, hbr⟩ := hrel
    by_cases hlt : j < m
    · have hjl : j < L.length := by rw [HM.out]; exact hlt
      obtain ⟨b, off, rfl, hbb, c0, c1, c2, c3, c4, c5, c6⟩ := (hs9.below hbr).ed j hlt hjl
      obtain ⟨f0, f1, f2, f3, f4⟩ := HCH.out j hjl
      rw [f0] at c2
      rw [f1] at c0
      rw [f2] at c1
      rw [f3] at c5
      rw [f4] at c6
      clear f0 f1 f2 f3 f4 c3 c4
      have t1 : (px j != px j) = false := by simp
      have t2 : (py j != py j) = false := by simp
      go_wp2_with fail
      go_quiet (fail)
      go_wp2_with fail
      go_roundw
      case rel => exact ⟨j + 1, by omega, rfl, rfl, by go_num, bdrewN hbr _⟩
      case measure => simp [intOf]; omega
    · obtain rfl : j = m := by omega
      have d5 : wr.cell? ⟨gE, 5, none⟩ = some (.int .i64 x1) := (later_cell hbr hg9).trans (HCE.out 5)
      have d6 : wr.cell? ⟨gE, 6, none⟩ = some (.int .i64 y1) := (later_cell hbr hg9).trans (HCE.out 6)
      rw [HP1.out, HQ1.out]
      have t1 : (x1 == x1) = true := by simp
      have t2 : (y1 == y1) = true := by simp
      go_wp2_with fail
      go_ret
      exact ⟨rfl, btr B9 hbr⟩

end Go.Proofs.Ytpompbpdhahljaa
