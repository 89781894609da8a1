/- The walk of DashSquare: it returns true. -/
import Derived.Test.YtacolepcpbhceaaDash7
import Derived.Test.YtacolepcpbhceaaDashSqP
namespace Go.Proofs.Ytacolepcpbhceaa
open Go.RowKit

theorem sqW_len (u v n : Int) (k : Nat) : (sqW u v n k).length = 4 := by unfold sqW; split <;> rfl
theorem sq_nobow (u v n : Int) : ∀ s ∈ squareL u v n, s.kind ≠ 3 := by simp [squareL]

set_option maxRecDepth 100000 in
set_option maxHeartbeats 400000 in
theorem DashSquare_any (x y long from_ : Int) (w : World) :
    Calls Try.prog 7 #[.int .i64 x, .int .i64 y, .int .i64 long, .int .i64 from_] w fun e w' => e = .returned (.bool true) ∧ Below w.heap.size w w' := by
  go_enter Try.func7, Try.ntmps7
  go_wp2_with fail
  refine (known35_any _).mono ?_; rintro e w1 ⟨rfl, hb1⟩
  go_wp2_with fail
  refine (Place_any long 500 _ (by omega) (by omega)).mono ?_; rintro e w' ⟨rfl, rfl⟩
  have hn : 0 ≤ placeI long 500 ∧ placeI long 500 < 500 := by unfold placeI; omega
  generalize placeI long 500 = n0 at *
  go_wp2_with fail
  refine (Place_any x 800 _ (by omega) (by omega)).mono ?_; rintro e w' ⟨rfl, rfl⟩
  have hx : 0 ≤ placeI x 800 ∧ placeI x 800 < 800 := by unfold placeI; omega
  generalize placeI x 800 = x0 at *
  go_wp2_with fail
  refine (Place_any y 800 _ (by omega) (by omega)).mono ?_; rintro e w' ⟨rfl, rfl⟩
  have hy : 0 ≤ placeI y 800 ∧ placeI y 800 < 800 := by unfold placeI; omega
  generalize placeI y 800 = y0 at *
  go_wp2_with fail
  refine (Place_any from_ 6 _ (by omega) (by omega)).mono ?_; rintro e w' ⟨rfl, rfl⟩
  have hk : 0 ≤ placeI from_ 6 ∧ placeI from_ 6 < 6 := by unfold placeI; omega
  generalize placeI from_ 6 = k0 at *
  obtain ⟨k, rfl⟩ : ∃ k : Nat, k0 = k := ⟨k0.toNat, by omega⟩
  obtain ⟨n, hne⟩ : ∃ n, n = 1 + n0 := ⟨_, rfl⟩
  obtain ⟨u, hue⟩ : ∃ u, u = x0 - 400 := ⟨_, rfl⟩
  obtain ⟨v, hve⟩ : ∃ v, v = y0 - 400 := ⟨_, rfl⟩
  have hn5 : 1 ≤ n ∧ n ≤ 500 := by omega
  have hu4 : -400 ≤ u ∧ u ≤ 400 := by omega
  have hv4 : -400 ≤ v ∧ v ≤ 400 := by omega
  have hkn := mul_bd (a := (k : Int)) (b := n) (A := 6) (B := 500) (by omega) (by omega)
  have hk0 : 0 ≤ (k : Int) * n := Int.mul_nonneg (by omega) (by omega)
  have hc1 := sq_cut (sq_row1 hn5.1 (by omega)) (pre_one n) hu4 hv4 hn5 k (by omega)
  have hc2 := sq_cut (sq_row2 hn5.1 (by omega)) (pre_two n) hu4 hv4 hn5 k (by omega)
  have HC1 := Lib.hid hc1
  have HC2 := Lib.hid hc2
  have HM := Lib.hid (sq_may hu4 hv4 hn5)
  have HR1 := Lib.hid (sq_row1 (n := n) hn5.1 (by omega))
  have HR2 := Lib.hid (sq_row2 (n := n) hn5.1 (by omega))
  obtain ⟨hn5, hn6⟩ := hn5
  obtain ⟨hu4, hu5⟩ := hu4
  obtain ⟨hv4, hv5⟩ := hv4
  rw [← hne, ← hue, ← hve]
  clear hc1 hc2 hne hue hve hn hx hy
  go_wp2_with fail
  refine (Cut_is _ _ _ _ _ _ (squareL u v n) [n] (k * n) (sqW u v n k) 0 4 _ ((sl_newN (sgs (squareL u v n)) rfl rfl).below (bal (Below.refl _ _) _)) HM.out (sq_nobow u v n) (sl_new (ints [n]) (by simp) rfl) (.inr ⟨HR1.out, by simp⟩) (by omega) HC1.out (sqW_len u v n k)).mono ?_
  rintro e w2 ⟨A2, c2, rfl, hown2, hb2⟩
  have hsq := (sl_newN (w := w1) (t := 36) (n := 5) (s := 5) (sgs (squareL u v n)) rfl rfl)
  have B12 := btr (bal (Below.refl _ _) (.cells #[.int .i64 n] 3)) hb2
  have hl2 : Sl w2 5 (some ⟨w1.heap.size, 0, none⟩) 5 (sgs (squareL u v n)) := hsq.below B12
  have hp2 := own_sl hown2
  have B2 := btr (bal hb1 _) B12
  clear hsq B12 hb2 hown2 hb1
  go_wp2_with fail
  refine (Cut_is _ _ _ _ _ _ (squareL u v n) [n, n] (k * n) (sqW u v n k) 0 4 _ (hl2.below (bal (Below.refl _ _) _)) HM.out (sq_nobow u v n) (sl_new (ints [n, n]) (by simp) rfl) (.inr ⟨HR2.out, by simp⟩) (by omega) HC2.out (sqW_len u v n k)).mono ?_
  rintro e w3 ⟨A3, c3, rfl, hown3, hb3⟩
  have B23 := btr (bal (Below.refl _ _) (.cells #[.int .i64 n, .int .i64 n] 3)) hb3
  have hp3 := hp2.below B23
  have hq3 := own_sl hown3
  have B3 := btr B2 B23
  clear hb3 hown3 B23 hp2 hl2 B2
  by_cases hodd : k % 2 = 1
  · have hw : sqW u v n k = [⟨1, u + n, v, 0, 0⟩, ⟨2, u + n, v + n, 0, 0⟩, ⟨1, u, v + n, 0, 0⟩, ⟨2, u, v, 0, 0⟩] := by unfold sqW; rw [if_pos hodd]
    have hd1 : ((k : Int) % 2 == 1) = true := by simp; omega
    have hd2 : (k % 2 == 1) = true := by simp; omega
    rw [hw] at hp3 hq3
    clear hw hodd
    go_wp2_with fail
    refine (sameSg_any _ _ _ _ _ _ [⟨1, u + n, v, 0, 0⟩, ⟨2, u + n, v + n, 0, 0⟩, ⟨1, u, v + n, 0, 0⟩, ⟨2, u, v, 0, 0⟩] _ (by omega) (hp3.below (bal (bal (Below.refl _ _) _) _)) (sl_newN _ (by simp) rfl)).mono ?_; rintro e w7 ⟨rfl, q7, rfl⟩
    go_wp2_with fail
    refine (sameSg_any _ _ _ _ _ _ [⟨1, u + n, v, 0, 0⟩, ⟨2, u + n, v + n, 0, 0⟩, ⟨1, u, v + n, 0, 0⟩, ⟨2, u, v, 0, 0⟩] _ (by omega) ((hq3.below (bal (bal (Below.refl _ _) _) _)).drewN _) ((sl_newN _ (by simp) rfl).drewN _)).mono ?_; rintro e w8 ⟨rfl, q8, rfl⟩
    go_wp2
    go_ret
    exact ⟨rfl, bdrewN (bal (bal B3 _) _) _⟩
  · have hw : sqW u v n k = [⟨1, u, v, 0, 0⟩, ⟨2, u + n, v, 0, 0⟩, ⟨1, u + n, v + n, 0, 0⟩, ⟨2, u, v + n, 0, 0⟩] := by unfold sqW; rw [if_neg hodd]
    have hd1 : ((k : Int) % 2 == 1) = false := by simp; omega
    have hd2 : (k % 2 == 1) = false := by simp; omega
    rw [hw] at hp3 hq3
    clear hw hodd
    go_wp2_with fail
    refine (sameSg_any _ _ _ _ _ _ [⟨1, u, v, 0, 0⟩, ⟨2, u + n, v, 0, 0⟩, ⟨1, u + n, v + n, 0, 0⟩, ⟨2, u, v + n, 0, 0⟩] _ (by omega) (hp3.below (bal (Below.refl _ _) _)) (sl_newN _ (by simp) rfl)).mono ?_; rintro e w7 ⟨rfl, q7, rfl⟩
    go_wp2_with fail
    refine (sameSg_any _ _ _ _ _ _ [⟨1, u, v, 0, 0⟩, ⟨2, u + n, v, 0, 0⟩, ⟨1, u + n, v + n, 0, 0⟩, ⟨2, u, v + n, 0, 0⟩] _ (by omega) ((hq3.below (bal (Below.refl _ _) _)).drewN _) ((sl_newN _ (by simp) rfl).drewN _)).mono ?_; rintro e w8 ⟨rfl, q8, rfl⟩
    go_wp2
    go_ret
    exact ⟨rfl, bdrewN (bal B3 _) _⟩
end Go.Proofs.Ytacolepcpbhceaa
