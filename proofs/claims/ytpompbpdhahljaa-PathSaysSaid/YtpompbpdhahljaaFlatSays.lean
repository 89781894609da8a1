/- The walk of FlatSays: it returns true. -/
import Derived.Test.YtpompbpdhahljaaKnown27
import Derived.Test.YtpompbpdhahljaaEdge
import Derived.Test.YtpompbpdhahljaaFlatPath
import Derived.Test.YtpompbpdhahljaaRefFlatPath
import Derived.Deep.RegionWith
import Derived.Deep.RegionHeld3
namespace Go.Proofs.Ytpompbpdhahljaa
open Go.RowKit

theorem Few_any (A : Option Addr) (n c : Nat) (w : World) (_hc : n ≤ 9223372036854775807) :
    Calls Try.prog 21 #[.slice A n c] w fun e w' => e = .returned (.bool (decide ((n : Int) ≤ 320))) ∧ w = w' := by
  go_enter Try.func21, Try.ntmps21
  go_wp2
  go_ret
  exact ⟨rfl, rfl⟩

theorem flat_Path_any (A : Option Addr) (n c : Nat) (l : List Sg) (E : List Sg × Int) (w : World) (hm : n ≤ 1000000) (h : Sl w 5 A n (sgs l)) (hE : flatE l = E) :
    Calls Try.prog 22 #[.slice A n c] w fun e w' => ∃ A' c', e = .returned (.tuple #[.slice A' E.1.length c', .int .i64 E.2]) ∧
      w'.ownsRow w.heap.size 45 5 (.slice A' E.1.length c') E.1.length (sgs E.1) ∧ Below w.heap.size w w' := by
  subst hE
  rcases Bool.eq_false_or_eq_true (mayB l) with hok | hok
  · exact flat_Path_yes A n c l w hm h hok
  · exact flat_Path_no A n c l w hm h hok
theorem ref_Flat_any (A : Option Addr) (n c : Nat) (l : List Sg) (E : List Sg × Int) (w : World) (hm : n ≤ 1000000) (h : Sl w 5 A n (sgs l)) (hE : flatE l = E) :
    Calls Try.prog 23 #[.slice A n c] w fun e w' => ∃ A' c', e = .returned (.tuple #[.slice A' E.1.length c', .int .i64 E.2]) ∧
      w'.ownsRow w.heap.size 45 5 (.slice A' E.1.length c') E.1.length (sgs E.1) ∧ Below w.heap.size w w' := by
  subst hE
  rcases Bool.eq_false_or_eq_true (mayB l) with hok | hok
  · exact ref_Flat_yes A n c l w hm h hok
  · exact ref_Flat_no A n c l w hm h hok

theorem keep7 {W w' : World} {g : Nat} {v0 v1 v2 v3 v4 v5 v6 : Value} (hb : Below W.heap.size W w') (hlt : g < W.heap.size)
    (h : W.cell? ⟨g, 0, none⟩ = some v0 ∧ W.cell? ⟨g, 1, none⟩ = some v1 ∧ W.cell? ⟨g, 2, none⟩ = some v2 ∧ W.cell? ⟨g, 3, none⟩ = some v3 ∧ W.cell? ⟨g, 4, none⟩ = some v4 ∧ W.cell? ⟨g, 5, none⟩ = some v5 ∧ W.cell? ⟨g, 6, none⟩ = some v6) :
    w'.cell? ⟨g, 0, none⟩ = some v0 ∧ w'.cell? ⟨g, 1, none⟩ = some v1 ∧ w'.cell? ⟨g, 2, none⟩ = some v2 ∧ w'.cell? ⟨g, 3, none⟩ = some v3 ∧ w'.cell? ⟨g, 4, none⟩ = some v4 ∧ w'.cell? ⟨g, 5, none⟩ = some v5 ∧ w'.cell? ⟨g, 6, none⟩ = some v6 := by
  obtain ⟨h0, h1, h2, h3, h4, h5, h6⟩ := h
  exact ⟨(later_cell hb hlt).trans h0, (later_cell hb hlt).trans h1, (later_cell hb hlt).trans h2, (later_cell hb hlt).trans h3, (later_cell hb hlt).trans h4, (later_cell hb hlt).trans h5, (later_cell hb hlt).trans h6⟩

theorem keep7d {w' : World} {g q : Nat} {v0 v1 v2 v3 v4 v5 v6 : Value}
    (h : w'.cell? ⟨g, 0, none⟩ = some v0 ∧ w'.cell? ⟨g, 1, none⟩ = some v1 ∧ w'.cell? ⟨g, 2, none⟩ = some v2 ∧ w'.cell? ⟨g, 3, none⟩ = some v3 ∧ w'.cell? ⟨g, 4, none⟩ = some v4 ∧ w'.cell? ⟨g, 5, none⟩ = some v5 ∧ w'.cell? ⟨g, 6, none⟩ = some v6) :
    (w'.drewN q).cell? ⟨g, 0, none⟩ = some v0 ∧ (w'.drewN q).cell? ⟨g, 1, none⟩ = some v1 ∧ (w'.drewN q).cell? ⟨g, 2, none⟩ = some v2 ∧ (w'.drewN q).cell? ⟨g, 3, none⟩ = some v3 ∧ (w'.drewN q).cell? ⟨g, 4, none⟩ = some v4 ∧ (w'.drewN q).cell? ⟨g, 5, none⟩ = some v5 ∧ (w'.drewN q).cell? ⟨g, 6, none⟩ = some v6 := h

set_option maxRecDepth 100000 in
set_option maxHeartbeats 1000000 in
theorem FlatSays_any (x0 y0 cx cy x1 y1 : Int) (bent : Bool) (A : Option Addr) (n c : Nat) (l : List Sg) (w : World) (h : Sl w 5 A n (sgs l)) (hc : n ≤ 9223372036854775807) :
    Calls Try.prog 4 #[.agg #[.int .i64 x0, .int .i64 y0, .bool bent, .int .i64 cx, .int .i64 cy, .int .i64 x1, .int .i64 y1], .slice A n c] w
      fun e w' => e = .returned (.bool true) ∧ Below w.heap.size w w' := by
  by_cases hf : n ≤ 320
  · obtain ⟨E, hE⟩ : ∃ E, flatE l = E := ⟨_, rfl⟩
    obtain ⟨L, hL⟩ : ∃ L, lns ⟨x0, y0, bent, cx, cy, x1, y1⟩ = L := ⟨_, rfl⟩
    obtain ⟨N, hN⟩ : ∃ N, cntI ⟨x0, y0, bent, cx, cy, x1, y1⟩ = N := ⟨_, rfl⟩
    have hLb : L.length ≤ 128 := by rw [← hL]; exact lns_le _
    have hEb : E.1.length ≤ 300 := by rw [← hE]; exact flatE_le l
    have hf' : (n : Int) ≤ 320 := by omega
    have HE := Lib.hid hE
    have HL := Lib.hid hL
    have HN := Lib.hid hN
    clear hE hL hN
    go_enter Try.func4, Try.ntmps4
    go_wp2_with fail
    refine (known27_any _).mono ?_; rintro e w1 ⟨rfl, hb1⟩
    have k1 : Hid (w1.heap[w.heap.size]? = some (.cells #[.int .i64 x0, .int .i64 y0, .bool bent, .int .i64 cx, .int .i64 cy, .int .i64 x1, .int .i64 y1] 25 (0, 0))) := (hb1.block _ (by simp)).trans (heap_alloc_new w _)
    go_wp2_with fail
    refine (Few_any _ _ _ _ hc).mono ?_; rintro e w2 ⟨rfl, rfl⟩
    go_wp2_with fail
    refine (flat_Path_any A n c l E _ (by omega) (h.below (btr (bal (Below.refl _ _) _) hb1)) HE.out).mono ?_; rintro e w2 ⟨A2, c2, rfl, hown2, hb2⟩
    go_wp2_with fail
    refine (ref_Flat_any A n c l E _ (by omega) (h.below (btr (btr (bal (Below.refl _ _) _) hb1) hb2)) HE.out).mono ?_; rintro e w3 ⟨A3, c3, rfl, hown3, hb3⟩
    have hs2 := (own_sl hown2).below hb3
    have hs3 := own_sl hown3
    have k3 : Hid (w3.heap[w.heap.size]? = some (.cells #[.int .i64 x0, .int .i64 y0, .bool bent, .int .i64 cx, .int .i64 cy, .int .i64 x1, .int .i64 y1] 25 (0, 0))) :=
      (hb3.block _ (Nat.lt_of_lt_of_le (hid_lt k1) hb2.size)).trans ((hb2.block _ (hid_lt k1)).trans k1.out)
    have B3 : Below w.heap.size w w3 := btr (btr (btr (bal (Below.refl _ _) _) hb1) hb2) hb3
    have hz3 := hid_lt k3
    have e0 : w3.cell? ⟨w.heap.size, 0, none⟩ = some (.int .i64 x0) := blk_cell 0 k3
    have e1 : w3.cell? ⟨w.heap.size, 1, none⟩ = some (.int .i64 y0) := blk_cell 1 k3
    have e2 : w3.cell? ⟨w.heap.size, 2, none⟩ = some (.bool bent) := blk_cell 2 k3
    have e3 : w3.cell? ⟨w.heap.size, 3, none⟩ = some (.int .i64 cx) := blk_cell 3 k3
    have e4 : w3.cell? ⟨w.heap.size, 4, none⟩ = some (.int .i64 cy) := blk_cell 4 k3
    have e5 : w3.cell? ⟨w.heap.size, 5, none⟩ = some (.int .i64 x1) := blk_cell 5 k3
    have e6 : w3.cell? ⟨w.heap.size, 6, none⟩ = some (.int .i64 y1) := blk_cell 6 k3
    clear hb1 hb2 hb3 hown2 hown3 k1 k3 h
    go_wp2_with fail
    have HCN := fun W => Count_is x0 y0 cx cy x1 y1 N bent W HN.out
    have HRN := fun W => ref_Count_is x0 y0 cx cy x1 y1 N bent W HN.out
    have HED := fun W => Edges_any x0 y0 cx cy x1 y1 bent L W HL.out
    have HLN := fun W => ref_Lines_any x0 y0 cx cy x1 y1 bent L W HL.out
    have H1 := Lib.hid HCN
    have H2 := Lib.hid HRN
    have H3 := Lib.hid HED
    have H4 := Lib.hid HLN
    clear HCN HRN HED HLN
    have hNN : (N == N) = true := by simp
    have hS0 := And.intro e0 (And.intro e1 (And.intro e2 (And.intro e3 (And.intro e4 (And.intro e5 e6)))))
    have hz3' : w.heap.size < w3.drew.heap.size := hz3
    go_region_held3 (fun w' => w'.cell? ⟨w.heap.size, 0, none⟩ = some (.int .i64 x0) ∧ w'.cell? ⟨w.heap.size, 1, none⟩ = some (.int .i64 y0) ∧ w'.cell? ⟨w.heap.size, 2, none⟩ = some (.bool bent) ∧ w'.cell? ⟨w.heap.size, 3, none⟩ = some (.int .i64 cx) ∧ w'.cell? ⟨w.heap.size, 4, none⟩ = some (.int .i64 cy) ∧ w'.cell? ⟨w.heap.size, 5, none⟩ = some (.int .i64 x1) ∧ w'.cell? ⟨w.heap.size, 6, none⟩ = some (.int .i64 y1)) (first | exact keep7 (W := w3) (by assumption) hz3 hS0 | exact keep7d (keep7 (W := w3) (by assumption) hz3 hS0) | go_keep)
      (first
        | (go_at_call 20; refine (H1.out _).mono ?_; rintro e w' ⟨rfl, hbA⟩; have BA : Below w3.heap.size w3 w' := ⟨hbA.os, hbA.tape, hbA.output, hbA.size, hbA.block⟩; have hzA : w.heap.size < w'.heap.size := Nat.lt_of_lt_of_le (by assumption) hbA.size)
        | (go_at_call 24; refine (H2.out _).mono ?_; rintro e w' ⟨rfl, hbB⟩; have BB := btr BA hbB; have hzB : w.heap.size < w'.heap.size := Nat.lt_of_lt_of_le (by assumption) hbB.size)
        | (go_at_call 18; refine (H3.out _).mono ?_; rintro e w' ⟨AE, cE, rfl, hownE, hbC⟩; have BC := btr BB hbC; have hzC : w.heap.size < w'.heap.size := Nat.lt_of_lt_of_le (by assumption) hbC.size)
        | (go_at_call 26; refine (H4.out _).mono ?_; rintro e w' ⟨AL, cL, rfl, hownL, hbD⟩; have BD := btr BC hbD; have hs2D := hs2.below BD; have hs3D := hs3.below BD; have hzD : w.heap.size < w'.heap.size := Nat.lt_of_lt_of_le (by assumption) hbD.size; have hsE := (own_sl hownE).below hbD; have hsL := own_sl hownL)
        | (go_at_call 25; refine (sameEd_any _ _ _ _ _ _ L _ (by omega) hsE hsL).mono ?_; rintro e w' ⟨rfl, q1, rfl⟩)
        | (go_at_call 27; refine (sameSg_any _ _ _ _ _ _ E.1 _ (by omega) (hs2D.drewN _) (hs3D.drewN _)).mono ?_; rintro e w' ⟨rfl, q2, rfl⟩))
    go_wp2
    go_ret
    refine ⟨rfl, ?_⟩
    go_light
    repeat (first | exact btr B3 BD | refine bdrewN ?_ _ | refine bdrew ?_)
  · have hf' : ¬ (n : Int) ≤ 320 := by omega
    go_enter Try.func4, Try.ntmps4
    go_wp2_with fail
    refine (known27_any _).mono ?_; rintro e w1 ⟨rfl, hb1⟩
    go_wp2_with fail
    refine (Few_any _ _ _ _ hc).mono ?_; rintro e w2 ⟨rfl, rfl⟩
    have hdf : decide ((n : Int) ≤ 320) = false := by simpa using hf'
    go_wp2_with fail
    go_ret
    exact ⟨rfl, btr (bal (Below.refl _ _) _) hb1⟩

end Go.Proofs.Ytpompbpdhahljaa
