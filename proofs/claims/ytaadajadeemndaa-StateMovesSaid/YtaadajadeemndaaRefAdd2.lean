/- tympanref25.Start, Add, Shut, Join. -/
import Derived.Test.YtaadajadeemndaaRefAdd
namespace Go.Proofs.Ytaadajadeemndaa
open Go.RowKit

theorem near2 (x y : Int) : nearB [x, y] = (co x && co y) := by simp [nearB]
theorem near4 (x y u v : Int) : nearB [x, y, u, v] = ((co x && co y) && (co u && co v)) := by simp [nearB, Bool.and_assoc]

set_option maxHeartbeats 1000000 in
theorem ref_Start_any (A : Option Addr) (n c : Nat) (x y : Int) (l : List Sg) (E : List Sg × Int) (w : World) (hm : n ≤ 100000) (hnc : n ≤ c) (h : Sl w 5 A n (sgs l)) (hE : startL l x y = E) :
    Calls Try.prog 50 #[.slice A n c, .int .i64 x, .int .i64 y] w fun e w' => ∃ A' c', e = .returned (.tuple #[.slice A' E.1.length c', .int .i64 E.2]) ∧
      w'.ownsRow w.heap.size 42 5 (.slice A' E.1.length c') E.1.length (sgs E.1) ∧ Below w.heap.size w w' := by
  have hl := h.sglen
  have HE := Lib.hid hE
  clear hE
  go_enter Try.func50, Try.ntmps50
  go_wp2_with fail
  refine (ref_May_any _ _ _ l _ (by omega) h).mono ?_; rintro e w1 ⟨rfl, hb1⟩
  cases hok : mayB l
  · have HE1 := Lib.hid (show E = ([], 1) by rw [← HE.out, startL, hok]; rfl)
    clear HE
    go_wp2
    go_ret2
    rw [HE1.out]
    exact ⟨none, 0, rfl, own_nil, hb1⟩
  · have hs1 := h.below hb1
    go_wp2_with fail
    refine (coords_any _ _ _).mono ?_; rintro e w2 ⟨rfl, rfl⟩
    rw [← near2]
    cases hnr : nearB [x, y]
    · have HE1 := Lib.hid (show E = ([], 2) by rw [← HE.out, startL, hok, hnr]; rfl)
      clear HE
      go_wp2
      go_ret2
      rw [HE1.out]
      exact ⟨none, 0, rfl, own_nil, hb1⟩
    · by_cases h0 : n = 0
      · have hl0 := List.length_eq_zero_iff.1 (hl.trans h0)
        have HE1 := Lib.hid (show longL l [⟨1, x, y, 0, 0⟩] = E by rw [← HE.out, startL, hok, hnr, if_neg (by decide), if_neg (by decide), if_neg (by rw [hl0]; decide)])
        clear HE hl0
        subst h0
        go_wp2_with fail
        refine (rcopied_any _ _ _ _ _ _ l [⟨1, x, y, 0, 0⟩] E _ (by omega) (by omega) (hs1.below (bal (Below.refl _ _) _)) (sl_newN (sgc ⟨1, x, y, 0, 0⟩) rfl rfl) HE1.out).mono ?_
        rintro e w4 ⟨A4, c4, rfl, hown4, hb4⟩
        go_wp2
        go_ret2
        exact ⟨A4, c4, rfl, own_mono hown4 (bal hb1 _).size, btr (bal hb1 _) hb4⟩
      · have hn1 : 1 ≤ n := by omega
        have hd : decide (0 < n) = true := by simp; omega
        have hd2 : decide (0 < (n : Int)) = true := by simp; omega
        obtain ⟨b, off, rfl, hb, c0, -⟩ := hs1.sg (n - 1) (by omega) (by omega)
        obtain ⟨g1, -, -⟩ := last_get (l := l) (by omega)
        simp only [hl] at g1
        rw [← g1] at c0
        clear g1 h0
        by_cases hk1 : lastK l = 1
        · have HE1 := Lib.hid (show longL l.dropLast [⟨1, x, y, 0, 0⟩] = E by rw [← HE.out, startL, hok, hnr, if_pos hk1]; rfl)
          have hk1' : (lastK l == 1) = true := by simp [hk1]
          clear hk1 HE
          go_wp2_with fail
          refine (rcopied_any _ _ _ _ _ _ l.dropLast [⟨1, x, y, 0, 0⟩] E _ (by omega) (by omega) (hs1.front.below (bal (Below.refl _ _) _)) (sl_newN (sgc ⟨1, x, y, 0, 0⟩) rfl rfl) HE1.out).mono ?_
          rintro e w4 ⟨A4, c4, rfl, hown4, hb4⟩
          go_wp2
          go_ret2
          exact ⟨A4, c4, rfl, own_mono hown4 (bal hb1 _).size, btr (bal hb1 _) hb4⟩
        · have HE1 := Lib.hid (show longL l [⟨1, x, y, 0, 0⟩] = E by rw [← HE.out, startL, hok, hnr, if_neg hk1]; rfl)
          have hk1' : (lastK l == 1) = false := by simp [hk1]
          clear hk1 HE
          go_wp2_with fail
          refine (rcopied_any _ _ _ _ _ _ l [⟨1, x, y, 0, 0⟩] E _ (by omega) (by omega) (hs1.below (bal (Below.refl _ _) _)) (sl_newN (sgc ⟨1, x, y, 0, 0⟩) rfl rfl) HE1.out).mono ?_
          rintro e w4 ⟨A4, c4, rfl, hown4, hb4⟩
          go_wp2
          go_ret2
          exact ⟨A4, c4, rfl, own_mono hown4 (bal hb1 _).size, btr (bal hb1 _) hb4⟩

set_option maxHeartbeats 1000000 in
theorem ref_Shut_any (A : Option Addr) (n c : Nat) (l : List Sg) (E : List Sg × Int) (w : World) (hm : n ≤ 100000) (h : Sl w 5 A n (sgs l)) (hE : shutL l = E) :
    Calls Try.prog 62 #[.slice A n c] w fun e w' => ∃ A' c', e = .returned (.tuple #[.slice A' E.1.length c', .int .i64 E.2]) ∧
      w'.ownsRow w.heap.size 42 5 (.slice A' E.1.length c') E.1.length (sgs E.1) ∧ Below w.heap.size w w' := by
  have hl := h.sglen
  have HE := Lib.hid hE
  clear hE
  go_enter Try.func62, Try.ntmps62
  go_wp2_with fail
  refine (ref_May_any _ _ _ l _ (by omega) h).mono ?_; rintro e w1 ⟨rfl, hb1⟩
  have hs1 := h.below hb1
  cases hok : mayB l
  · have HE1 := Lib.hid (show E = ([], 1) by rw [← HE.out, shutL, hok]; rfl)
    clear HE
    go_wp2
    go_ret2
    rw [HE1.out]
    exact ⟨none, 0, rfl, own_nil, hb1⟩
  · by_cases h0 : n = 0
    · have hl0 := List.length_eq_zero_iff.1 (hl.trans h0)
      have HE1 := Lib.hid (show longL l [] = E by rw [← HE.out, shutL, hok, if_neg (by simp), if_pos (.inl hl0)])
      clear HE hl0
      subst h0
      go_wp2_with fail
      refine (rcopied_any _ _ _ _ _ _ l [] E _ (by omega) (by omega) hs1 (show Sl w1 5 none 0 (sgs []) from Sl.nil_) HE1.out).mono ?_
      rintro e w4 ⟨A4, c4, rfl, hown4, hb4⟩
      go_wp2
      go_ret2
      exact ⟨A4, c4, rfl, own_mono hown4 hb1.size, btr hb1 hb4⟩
    · have hl0 : l ≠ [] := fun e => h0 (by rw [← hl, e]; rfl)
      have hn0 : ((n : Int) == 0) = false := by simp; omega
      have hn1 : (n == 0) = false := by simp; omega
      have hn2 : 1 ≤ n := by omega
      have HL0 := Lib.hid hl0
      obtain ⟨b, off, rfl, hb, c0, -⟩ := hs1.sg (n - 1) (by omega) (by omega)
      obtain ⟨g1, -, -⟩ := last_get (l := l) (by omega)
      simp only [hl] at g1
      rw [← g1] at c0
      clear hl0 h0 g1
      by_cases hk4 : lastK l = 4
      · have HE1 := Lib.hid (show longL l [] = E by rw [← HE.out, shutL, hok, if_neg (by simp), if_pos (.inr hk4)])
        have hk4' : (lastK l == 4) = true := by simp [hk4]
        clear hk4 HE
        go_wp2_with fail
        refine (rcopied_any _ _ _ _ _ _ l [] E _ (by omega) (by omega) hs1 (show Sl w1 5 none 0 (sgs []) from Sl.nil_) HE1.out).mono ?_
        rintro e w4 ⟨A4, c4, rfl, hown4, hb4⟩
        go_wp2
        go_ret2
        exact ⟨A4, c4, rfl, own_mono hown4 hb1.size, btr hb1 hb4⟩
      · have HE1 := Lib.hid (show longL l [⟨4, 0, 0, 0, 0⟩] = E by rw [← HE.out, shutL, hok, if_neg (by simp), if_neg (by simp [hk4, HL0.out])])
        have hk4' : (lastK l == 4) = false := by simp [hk4]
        clear hk4 HE
        go_wp2_with fail
        refine (rcopied_any _ _ _ _ _ _ l [⟨4, 0, 0, 0, 0⟩] E _ (by omega) (by omega) (hs1.below (bal (Below.refl _ _) _)) (sl_newN (sgc ⟨4, 0, 0, 0, 0⟩) rfl rfl) HE1.out).mono ?_
        rintro e w4 ⟨A4, c4, rfl, hown4, hb4⟩
        go_wp2
        go_ret2
        exact ⟨A4, c4, rfl, own_mono hown4 (bal hb1 _).size, btr (bal hb1 _) hb4⟩

set_option maxHeartbeats 1000000 in
theorem ref_Add_any (A : Option Addr) (n c : Nat) (l : List Sg) (s : Sg) (E : List Sg × Int) (w : World) (hm : n ≤ 100000) (h : Sl w 5 A n (sgs l)) (hE : onL l s = E) :
    Calls Try.prog 52 #[.slice A n c, .agg #[.int .i64 s.kind, .int .i64 s.x, .int .i64 s.y, .int .i64 s.cx, .int .i64 s.cy]] w fun e w' => ∃ A' c', e = .returned (.tuple #[.slice A' E.1.length c', .int .i64 E.2]) ∧
      w'.ownsRow w.heap.size 42 5 (.slice A' E.1.length c') E.1.length (sgs E.1) ∧ Below w.heap.size w w' := by
  have hl := h.sglen
  have HE := Lib.hid hE
  clear hE
  go_enter Try.func52, Try.ntmps52
  go_wp2_with fail
  refine (ref_May_any _ _ _ l _ (by omega) (h.below (bal (Below.refl _ _) _))).mono ?_; rintro e w1 ⟨rfl, hb1⟩
  have hB1 : Below w.heap.size w w1 := btr (bal (Below.refl _ _) _) hb1
  have hbx : w.heap.size < w1.heap.size := by have := hb1.size; simp at this; omega
  have k0 : w1.cell? ⟨w.heap.size, 0, none⟩ = some (.int .i64 s.kind) := (later_cell hb1 (by simp)).trans (new_cell _ 0)
  have k1 : w1.cell? ⟨w.heap.size, 1, none⟩ = some (.int .i64 s.x) := (later_cell hb1 (by simp)).trans (new_cell _ 1)
  have k2 : w1.cell? ⟨w.heap.size, 2, none⟩ = some (.int .i64 s.y) := (later_cell hb1 (by simp)).trans (new_cell _ 2)
  have k3 : w1.cell? ⟨w.heap.size, 3, none⟩ = some (.int .i64 s.cx) := (later_cell hb1 (by simp)).trans (new_cell _ 3)
  have k4 : w1.cell? ⟨w.heap.size, 4, none⟩ = some (.int .i64 s.cy) := (later_cell hb1 (by simp)).trans (new_cell _ 4)
  have hs1 := h.below hB1
  clear hb1 h
  cases hok : mayB l
  · have HE1 := Lib.hid (show E = ([], 1) by rw [← HE.out, onL, hok]; rfl)
    clear HE
    go_wp2
    go_ret2
    rw [HE1.out]
    exact ⟨none, 0, rfl, own_nil, hB1⟩
  · by_cases h0 : n = 0
    · have hl0 := List.length_eq_zero_iff.1 (hl.trans h0)
      have HE1 := Lib.hid (show E = ([], 13) by rw [← HE.out, onL, hok, if_pos hl0]; rfl)
      clear HE hl0
      subst h0
      go_wp2
      go_ret2
      rw [HE1.out]
      exact ⟨none, 0, rfl, own_nil, hB1⟩
    · have hl0 : l ≠ [] := fun e => h0 (by rw [← hl, e]; rfl)
      have hn0 : ((n : Int) == 0) = false := by simp; omega
      have hn1 : (n == 0) = false := by simp; omega
      have hn2 : 1 ≤ n := by omega
      have HL0 := Lib.hid hl0
      clear hl0 h0
      go_wp2_with fail
      refine (coords_any _ _ _).mono ?_; rintro e w2 ⟨rfl, rfl⟩
      cases hnr1 : (co s.x && co s.y)
      · have HE1 := Lib.hid (show E = ([], 2) by rw [← HE.out, onL, hok, if_neg (by simp), if_neg HL0.out, if_pos (by rw [near4, hnr1]; rfl)])
        clear HE
        go_wp2
        go_ret2
        rw [HE1.out]
        exact ⟨none, 0, rfl, own_nil, hB1⟩
      · go_wp2_with fail
        refine (coords_any _ _ _).mono ?_; rintro e w2 ⟨rfl, rfl⟩
        cases hnr2 : (co s.cx && co s.cy)
        · have HE1 := Lib.hid (show E = ([], 2) by rw [← HE.out, onL, hok, if_neg (by simp), if_neg HL0.out, if_pos (by rw [near4, hnr1, hnr2]; rfl)])
          clear HE
          go_wp2
          go_ret2
          rw [HE1.out]
          exact ⟨none, 0, rfl, own_nil, hB1⟩
        · have hnr : nearB [s.x, s.y, s.cx, s.cy] = true := by rw [near4, hnr1, hnr2]; rfl
          obtain ⟨b, off, rfl, hb, c0, -⟩ := hs1.sg (n - 1) (by omega) (by omega)
          obtain ⟨g1, -, -⟩ := last_get (l := l) (by omega)
          simp only [hl] at g1
          rw [← g1] at c0
          clear g1 hnr1 hnr2
          by_cases hk4 : lastK l = 4
          · obtain ⟨⟨px, py⟩, hp⟩ : ∃ p, lastMv l = p := ⟨_, rfl⟩
            have hpt : ptL l = (px, py, true) := by rw [ptL_yes HL0.out hok, if_pos hk4, hp]
            have HE1 := Lib.hid (show longL l [⟨1, px, py, 0, 0⟩, s] = E by rw [← HE.out, onL, hok, if_neg (by simp), if_neg HL0.out, hnr, if_neg (by simp), if_pos hk4, hpt])
            have hk4' : (lastK l == 4) = true := by simp [hk4]
            have HP := Lib.hid hp
            clear hk4 HE hp hpt hnr
            go_wp2_with fail
            refine (ref_start_any _ _ _ l _ _ (by omega) hs1 HP.out).mono ?_; rintro e w4 ⟨rfl, q, rfl⟩
            go_wp2_with fail
            refine (rcopied_any _ _ _ _ _ _ l [⟨1, px, py, 0, 0⟩, s] E _ (by omega) (by omega) ((hs1.drewN q).below (bal (Below.refl _ _) _)) (sl_newN (sgs [⟨1, px, py, 0, 0⟩, s]) rfl rfl) HE1.out).mono ?_
            rintro e w5 ⟨A5, c5, rfl, hown5, hb5⟩
            go_wp2
            go_ret2
            exact ⟨A5, c5, rfl, own_mono hown5 (bal (bdrewN hB1 q) _).size, btr (bal (bdrewN hB1 q) _) hb5⟩
          · have HE1 := Lib.hid (show longL l [s] = E by rw [← HE.out, onL, hok, if_neg (by simp), if_neg HL0.out, hnr, if_neg (by simp), if_neg hk4])
            have hk4' : (lastK l == 4) = false := by simp [hk4]
            clear hk4 HE hnr
            go_wp2_with fail
            refine (rcopied_any _ _ _ _ _ _ l [s] E _ (by omega) (by omega) (hs1.below (bal (Below.refl _ _) _)) (sl_newN (sgs [s]) rfl rfl) HE1.out).mono ?_
            rintro e w5 ⟨A5, c5, rfl, hown5, hb5⟩
            go_wp2
            go_ret2
            exact ⟨A5, c5, rfl, own_mono hown5 (bal hB1 _).size, btr (bal hB1 _) hb5⟩

end Go.Proofs.Ytaadajadeemndaa
