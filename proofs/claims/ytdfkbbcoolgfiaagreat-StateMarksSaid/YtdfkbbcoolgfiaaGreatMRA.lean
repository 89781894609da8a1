/- tympanref25: start, Point, copied, Start, Add, Shut, Join: what they return, and that what was there is as it was. -/
import Derived.Test.YtdfkbbcoolgfiaaGreatMAdd
import Derived.Test.YtdfkbbcoolgfiaaGreatMRM
import Derived.Deep.DeepCutAuto
namespace Go.Proofs.YtdfkbbcoolgfiaaGreat
open Go.RowKit

theorem lastMv_any (l : List Sg) (k : Nat) (h : k < l.length) (hm : lastMv l = lastMv (l.take (k + 1))) : (l[k].kind = 1 → lastMv l = (l[k].x, l[k].y)) ∧ (l[k].kind ≠ 1 → lastMv l = lastMv (l.take k)) := by
  rw [lastMv_take h] at hm
  exact ⟨fun e => by rw [hm, if_pos e], fun e => by rw [hm, if_neg e]⟩

set_option maxHeartbeats 1000000 in
theorem ref_start_any (A : Option Addr) (n c : Nat) (l : List Sg) (p : Int × Int) (w : World) (hm : n ≤ 1000000) (h : Sl w 5 A n (sgs l)) (hp : lastMv l = p) :
    Calls Tryz.prog 141 #[.slice A n c] w fun e w' => e = .returned (.tuple #[.int .i64 p.1, .int .i64 p.2]) ∧ ∃ q, w.drewN q = w' := by
  have hl := h.sglen
  have HP := Lib.hid hp
  clear hp
  go_enter Tryz.func141, Tryz.ntmps141
  go_wp2
  go_loop [4] (fun i => ∃ (k : Nat) (iv : Int), k ≤ n ∧ Hid (iv = (k : Int) - 1) ∧ i = .int .i64 iv ∧ Hid (lastMv l = lastMv (l.take k))) (fun i => (intOf i + 1).toNat)
  case atStart => exact ⟨n, (n : Int) - 1, by omega, Lib.hid rfl, by go_num, Lib.hid (by rw [← hl, List.take_length])⟩
  case round =>
    obtain ⟨k, iv, hk, hiv, rfl, hmv⟩ := hrel
    rcases k with _ | k
    · obtain rfl : iv = -1 := by have := hiv.out; omega
      have HZ := Lib.hid (show p = (0, 0) by rw [← HP.out, hmv.out]; rfl)
      go_wp2
      go_ret2
      rw [HZ.out]
      exact ⟨rfl, 0, rfl⟩
    · obtain rfl : iv = (k : Int) := by have := hiv.out; omega
      obtain ⟨b, off, rfl, hb, d0, d1, d2, -⟩ := h.sg k (by omega) (by omega)
      obtain ⟨h1, h2⟩ := lastMv_any l k (by omega) hmv.out
      obtain ⟨sk, hsk⟩ : ∃ sk, sk = l[k]'(by omega) := ⟨_, rfl⟩
      rw [← hsk] at d0 d1 d2 h1 h2
      by_cases hk1 : sk.kind = 1
      · have HZ := Lib.hid (show p = (sk.x, sk.y) by rw [← HP.out, h1 hk1])
        have hk1' : (sk.kind == 1) = true := by simp [hk1]
        clear h1 h2 hsk hmv hiv
        go_wp2
        go_quiet (fail)
        go_wp2
        go_ret2
        rw [HZ.out]
        exact ⟨rfl, _, rfl⟩
      · have HZ := Lib.hid (h2 hk1)
        have hk1' : (sk.kind == 1) = false := by simp [hk1]
        clear h1 h2 hsk hmv hiv hk1
        go_wp2
        go_round
        case rel => exact ⟨k, (k : Int) - 1, by omega, Lib.hid rfl, by go_num, HZ⟩
        case measure => simp [intOf]

set_option maxHeartbeats 1000000 in
theorem rcopied_any (A B : Option Addr) (n c m d : Nat) (l k : List Sg) (E : List Sg × Int) (w : World) (hm : n ≤ 100000) (hm2 : m ≤ 100000) (h : Sl w 5 A n (sgs l)) (h2 : Sl w 5 B m (sgs k)) (hE : longL l k = E) :
    Calls Tryz.prog 148 #[.slice A n c, .slice B m d] w fun e w' => ∃ A' c', e = .returned (.tuple #[.slice A' E.1.length c', .int .i64 E.2]) ∧
      w'.ownsRow w.heap.size 63 5 (.slice A' E.1.length c') E.1.length (sgs E.1) ∧ Below w.heap.size w w' := by
  have hl := h.sglen
  have hk := h2.sglen
  have HE := Lib.hid hE
  clear hE
  go_enter Tryz.func148, Tryz.ntmps148
  have hr0 := own_new (w := w) (t := 63) (n := 0) (s := 5) (base := w.heap.size) [] rfl rfl (Nat.le_refl _) (by omega)
  have b0 : Below w.heap.size w (w.alloc (.cells #[] 63)) := bal (Below.refl _ _) _
  by_cases hov : 300 < n + m
  · have HL := Lib.hid (show E = ([], 5) by rw [← HE.out]; unfold longL; rw [if_pos (by omega)])
    go_wp2_with (first
      | (at_builtin; refine wpList_app rfl _ _ 24 rfl w.heap.size sgT rfl hr0 (sgs l) rfl (h.below b0) (oneCell_sgs l) (by omega) b0.size ?_; intro A2 c2 w2 hown2 hg2 hat2; have hb2 := grown_below b0 hg2 hr0; rw [Nat.zero_add] at hown2)
      | (at_builtin; refine wpList_app rfl _ _ 24 rfl w.heap.size sgT rfl hown2 (sgs k) rfl (h2.below hb2) (oneCell_sgs k) (by omega) hb2.size ?_; intro A3 c3 w3 hown3 hg3 hat3; have hb3 := grown_below hb2 hg3 hown2))
    go_ret2
    rw [HL.out]
    exact ⟨none, 0, rfl, own_nil, hb3⟩
  · have HL := Lib.hid (show E = (l ++ k, 0) by rw [← HE.out]; unfold longL; rw [if_neg (by omega)])
    go_wp2_with (first
      | (at_builtin; refine wpList_app rfl _ _ 24 rfl w.heap.size sgT rfl hr0 (sgs l) rfl (h.below b0) (oneCell_sgs l) (by omega) b0.size ?_; intro A2 c2 w2 hown2 hg2 hat2; have hb2 := grown_below b0 hg2 hr0; rw [Nat.zero_add] at hown2)
      | (at_builtin; refine wpList_app rfl _ _ 24 rfl w.heap.size sgT rfl hown2 (sgs k) rfl (h2.below hb2) (oneCell_sgs k) (by omega) hb2.size ?_; intro A3 c3 w3 hown3 hg3 hat3; have hb3 := grown_below hb2 hg3 hown2))
    go_ret2
    have hlen : (l ++ k).length = n + m := by rw [List.length_append]; omega
    rw [HL.out]
    simp only
    rw [hlen]
    exact ⟨A3, c3, rfl, by rw [sgs_app]; exact hown3, hb3⟩

set_option maxHeartbeats 1000000 in
theorem ref_Point_any (A : Option Addr) (n c : Nat) (l : List Sg) (p : Int × Int × Bool) (w : World) (hm : n ≤ 1000000) (h : Sl w 5 A n (sgs l)) (hp : ptL l = p) :
    Calls Tryz.prog 100 #[.slice A n c] w fun e w' => e = .returned (.tuple #[.int .i64 p.1, .int .i64 p.2.1, .bool p.2.2]) ∧ Below w.heap.size w w' := by
  have hl := h.sglen
  have HP := Lib.hid hp
  clear hp
  go_enter Tryz.func100, Tryz.ntmps100
  by_cases h0 : n = 0
  · subst h0
    have HZ := Lib.hid (show p = (0, 0, false) by rw [← HP.out, List.length_eq_zero_iff.1 hl]; rfl)
    go_wp2
    go_ret3
    rw [HZ.out]
    exact ⟨rfl, Below.refl _ _⟩
  · have hn0 : ((n : Int) == 0) = false := by simp; omega
    have hn1 : (n == 0) = false := by simp; omega
    have hl0 : l ≠ [] := fun e => h0 (by rw [← hl, e]; rfl)
    have HL0 := Lib.hid hl0
    clear h0 hl0
    go_wp2_with fail
    refine (ref_May_any _ _ _ l _ hm h).mono ?_; rintro e w1 ⟨rfl, hb1⟩
    cases hok : mayB l
    · have HZ := Lib.hid (show p = (0, 0, false) by rw [← HP.out]; unfold ptL; rw [if_pos (.inr hok)])
      go_wp2
      go_ret3
      rw [HZ.out]
      exact ⟨rfl, hb1⟩
    · have hs1 := h.below hb1
      have hlp := List.length_pos_iff.2 HL0.out
      obtain ⟨b, off, rfl, hb, c0, c1, c2, c3, c4⟩ := hs1.sg (n - 1) (by omega) (by omega)
      obtain ⟨g1, g2, g3⟩ := last_get (l := l) (by omega)
      simp only [hl] at g1 g2 g3
      have hp := ptL_yes HL0.out hok
      rw [HP.out] at hp
      obtain ⟨sk, hsk⟩ : ∃ sk, sk = l[n - 1]'(by omega) := ⟨_, rfl⟩
      rw [← hsk] at c0 c1 c2 c3 c4 g1 g2 g3
      rw [g1, g2, g3] at hp
      have HP2 := Lib.hid hp
      have hn2 : 1 ≤ n := by omega
      clear g1 g2 g3 hp hsk h
      by_cases hk4 : sk.kind = 4
      · have HZ := Lib.hid (show p = ((lastMv l).1, (lastMv l).2, true) by rw [HP2.out, if_pos hk4])
        have h4' : (sk.kind == 4) = true := by simp [hk4]
        have h4n : (sk.kind != 4) = false := by simp [hk4]
        clear hk4 HP2
        go_wp2_with fail
        refine (ref_start_any _ _ _ l _ _ hm (hs1.below (bal (Below.refl _ _) _)) rfl).mono ?_; rintro e w2 ⟨rfl, q, rfl⟩
        go_wp2
        go_ret3
        rw [HZ.out]
        exact ⟨rfl, bdrewN (bal hb1 _) _⟩
      · have HZ := Lib.hid (show p = (sk.x, sk.y, true) by rw [HP2.out, if_neg hk4])
        have h4' : (sk.kind == 4) = false := by simp [hk4]
        have h4n : (sk.kind != 4) = true := by simp [hk4]
        clear hk4 HP2
        go_wp2_with fail
        go_quiet (fail)
        go_wp2
        go_ret3
        rw [HZ.out]
        exact ⟨rfl, bdrewN (bal hb1 _) _⟩

end Go.Proofs.YtdfkbbcoolgfiaaGreat

namespace Go.Proofs.YtdfkbbcoolgfiaaGreat
open Go.RowKit

theorem near2 (x y : Int) : nearB [x, y] = (co x && co y) := by simp [nearB]
theorem near4 (x y u v : Int) : nearB [x, y, u, v] = ((co x && co y) && (co u && co v)) := by simp [nearB, Bool.and_assoc]

set_option maxHeartbeats 1000000 in
theorem ref_Start_any (A : Option Addr) (n c : Nat) (x y : Int) (l : List Sg) (E : List Sg × Int) (w : World) (hm : n ≤ 100000) (hnc : n ≤ c) (h : Sl w 5 A n (sgs l)) (hE : startL l x y = E) :
    Calls Tryz.prog 192 #[.slice A n c, .int .i64 x, .int .i64 y] w fun e w' => ∃ A' c', e = .returned (.tuple #[.slice A' E.1.length c', .int .i64 E.2]) ∧
      w'.ownsRow w.heap.size 63 5 (.slice A' E.1.length c') E.1.length (sgs E.1) ∧ Below w.heap.size w w' := by
  have hl := h.sglen
  have HE := Lib.hid hE
  clear hE
  go_enter Tryz.func192, Tryz.ntmps192
  go_wp2_with fail
  refine (ref_May_any _ _ _ l _ (by omega) h).mono ?_; rintro e w1 ⟨rfl, hb1⟩
  cases hok : mayB l
  · have HE1 := Lib.hid (show E = ([], 1) by rw [← HE.out, startL, hok]; rfl)
    clear HE
    go_wp2
    go_ret2
    rw [HE1.out]
    exact ⟨none, 0, rfl, own_nil, hb1⟩
  · have hs1 := h.below hb1
    go_wp2_with fail
    refine (coords_any _ _ _).mono ?_; rintro e w2 ⟨rfl, rfl⟩
    rw [← near2]
    cases hnr : nearB [x, y]
    · have HE1 := Lib.hid (show E = ([], 2) by rw [← HE.out, startL, hok, hnr]; rfl)
      clear HE
      go_wp2
      go_ret2
      rw [HE1.out]
      exact ⟨none, 0, rfl, own_nil, hb1⟩
    · by_cases h0 : n = 0
      · have hl0 := List.length_eq_zero_iff.1 (hl.trans h0)
        have HE1 := Lib.hid (show longL l [⟨1, x, y, 0, 0⟩] = E by rw [← HE.out, startL, hok, hnr, if_neg (by decide), if_neg (by decide), if_neg (by rw [hl0]; decide)])
        clear HE hl0
        subst h0
        go_wp2_with fail
        refine (rcopied_any _ _ _ _ _ _ l [⟨1, x, y, 0, 0⟩] E _ (by omega) (by omega) (hs1.below (bal (Below.refl _ _) _)) (sl_newN (sgc ⟨1, x, y, 0, 0⟩) rfl rfl) HE1.out).mono ?_
        rintro e w4 ⟨A4, c4, rfl, hown4, hb4⟩
        go_wp2
        go_ret2
        exact ⟨A4, c4, rfl, own_mono hown4 (bal hb1 _).size, btr (bal hb1 _) hb4⟩
      · have hn1 : 1 ≤ n := by omega
        have hd : decide (0 < n) = true := by simp; omega
        have hd2 : decide (0 < (n : Int)) = true := by simp; omega
        obtain ⟨b, off, rfl, hb, c0, -⟩ := hs1.sg (n - 1) (by omega) (by omega)
        obtain ⟨g1, -, -⟩ := last_get (l := l) (by omega)
        simp only [hl] at g1
        rw [← g1] at c0
        clear g1 h0
        by_cases hk1 : lastK l = 1
        · have HE1 := Lib.hid (show longL l.dropLast [⟨1, x, y, 0, 0⟩] = E by rw [← HE.out, startL, hok, hnr, if_pos hk1]; rfl)
          have hk1' : (lastK l == 1) = true := by simp [hk1]
          clear hk1 HE
          go_wp2_with fail
          refine (rcopied_any _ _ _ _ _ _ l.dropLast [⟨1, x, y, 0, 0⟩] E _ (by omega) (by omega) (hs1.front.below (bal (Below.refl _ _) _)) (sl_newN (sgc ⟨1, x, y, 0, 0⟩) rfl rfl) HE1.out).mono ?_
          rintro e w4 ⟨A4, c4, rfl, hown4, hb4⟩
          go_wp2
          go_ret2
          exact ⟨A4, c4, rfl, own_mono hown4 (bal hb1 _).size, btr (bal hb1 _) hb4⟩
        · have HE1 := Lib.hid (show longL l [⟨1, x, y, 0, 0⟩] = E by rw [← HE.out, startL, hok, hnr, if_neg hk1]; rfl)
          have hk1' : (lastK l == 1) = false := by simp [hk1]
          clear hk1 HE
          go_wp2_with fail
          refine (rcopied_any _ _ _ _ _ _ l [⟨1, x, y, 0, 0⟩] E _ (by omega) (by omega) (hs1.below (bal (Below.refl _ _) _)) (sl_newN (sgc ⟨1, x, y, 0, 0⟩) rfl rfl) HE1.out).mono ?_
          rintro e w4 ⟨A4, c4, rfl, hown4, hb4⟩
          go_wp2
          go_ret2
          exact ⟨A4, c4, rfl, own_mono hown4 (bal hb1 _).size, btr (bal hb1 _) hb4⟩

set_option maxHeartbeats 1000000 in
theorem ref_Shut_any (A : Option Addr) (n c : Nat) (l : List Sg) (E : List Sg × Int) (w : World) (hm : n ≤ 100000) (h : Sl w 5 A n (sgs l)) (hE : shutL l = E) :
    Calls Tryz.prog 196 #[.slice A n c] w fun e w' => ∃ A' c', e = .returned (.tuple #[.slice A' E.1.length c', .int .i64 E.2]) ∧
      w'.ownsRow w.heap.size 63 5 (.slice A' E.1.length c') E.1.length (sgs E.1) ∧ Below w.heap.size w w' := by
  have hl := h.sglen
  have HE := Lib.hid hE
  clear hE
  go_enter Tryz.func196, Tryz.ntmps196
  go_wp2_with fail
  refine (ref_May_any _ _ _ l _ (by omega) h).mono ?_; rintro e w1 ⟨rfl, hb1⟩
  have hs1 := h.below hb1
  cases hok : mayB l
  · have HE1 := Lib.hid (show E = ([], 1) by rw [← HE.out, shutL, hok]; rfl)
    clear HE
    go_wp2
    go_ret2
    rw [HE1.out]
    exact ⟨none, 0, rfl, own_nil, hb1⟩
  · by_cases h0 : n = 0
    · have hl0 := List.length_eq_zero_iff.1 (hl.trans h0)
      have HE1 := Lib.hid (show longL l [] = E by rw [← HE.out, shutL, hok, if_neg (by simp), if_pos (.inl hl0)])
      clear HE hl0
      subst h0
      go_wp2_with fail
      refine (rcopied_any _ _ _ _ _ _ l [] E _ (by omega) (by omega) hs1 (show Sl w1 5 none 0 (sgs []) from Sl.nil_) HE1.out).mono ?_
      rintro e w4 ⟨A4, c4, rfl, hown4, hb4⟩
      go_wp2
      go_ret2
      exact ⟨A4, c4, rfl, own_mono hown4 hb1.size, btr hb1 hb4⟩
    · have hl0 : l ≠ [] := fun e => h0 (by rw [← hl, e]; rfl)
      have hn0 : ((n : Int) == 0) = false := by simp; omega
      have hn1 : (n == 0) = false := by simp; omega
      have hn2 : 1 ≤ n := by omega
      have HL0 := Lib.hid hl0
      obtain ⟨b, off, rfl, hb, c0, -⟩ := hs1.sg (n - 1) (by omega) (by omega)
      obtain ⟨g1, -, -⟩ := last_get (l := l) (by omega)
      simp only [hl] at g1
      rw [← g1] at c0
      clear hl0 h0 g1
      by_cases hk4 : lastK l = 4
      · have HE1 := Lib.hid (show longL l [] = E by rw [← HE.out, shutL, hok, if_neg (by simp), if_pos (.inr hk4)])
        have hk4' : (lastK l == 4) = true := by simp [hk4]
        clear hk4 HE
        go_wp2_with fail
        refine (rcopied_any _ _ _ _ _ _ l [] E _ (by omega) (by omega) hs1 (show Sl w1 5 none 0 (sgs []) from Sl.nil_) HE1.out).mono ?_
        rintro e w4 ⟨A4, c4, rfl, hown4, hb4⟩
        go_wp2
        go_ret2
        exact ⟨A4, c4, rfl, own_mono hown4 hb1.size, btr hb1 hb4⟩
      · have HE1 := Lib.hid (show longL l [⟨4, 0, 0, 0, 0⟩] = E by rw [← HE.out, shutL, hok, if_neg (by simp), if_neg (by simp [hk4, HL0.out])])
        have hk4' : (lastK l == 4) = false := by simp [hk4]
        clear hk4 HE
        go_wp2_with fail
        refine (rcopied_any _ _ _ _ _ _ l [⟨4, 0, 0, 0, 0⟩] E _ (by omega) (by omega) (hs1.below (bal (Below.refl _ _) _)) (sl_newN (sgc ⟨4, 0, 0, 0, 0⟩) rfl rfl) HE1.out).mono ?_
        rintro e w4 ⟨A4, c4, rfl, hown4, hb4⟩
        go_wp2
        go_ret2
        exact ⟨A4, c4, rfl, own_mono hown4 (bal hb1 _).size, btr (bal hb1 _) hb4⟩

set_option maxHeartbeats 1000000 in
theorem ref_Add_any (A : Option Addr) (n c : Nat) (l : List Sg) (s : Sg) (E : List Sg × Int) (w : World) (hm : n ≤ 100000) (h : Sl w 5 A n (sgs l)) (hE : onL l s = E) :
    Calls Tryz.prog 195 #[.slice A n c, .agg #[.int .i64 s.kind, .int .i64 s.x, .int .i64 s.y, .int .i64 s.cx, .int .i64 s.cy]] w fun e w' => ∃ A' c', e = .returned (.tuple #[.slice A' E.1.length c', .int .i64 E.2]) ∧
      w'.ownsRow w.heap.size 63 5 (.slice A' E.1.length c') E.1.length (sgs E.1) ∧ Below w.heap.size w w' := by
  have hl := h.sglen
  have HE := Lib.hid hE
  clear hE
  go_enter Tryz.func195, Tryz.ntmps195
  go_wp2_with fail
  refine (ref_May_any _ _ _ l _ (by omega) (h.below (bal (Below.refl _ _) _))).mono ?_; rintro e w1 ⟨rfl, hb1⟩
  have hB1 : Below w.heap.size w w1 := btr (bal (Below.refl _ _) _) hb1
  have hbx : w.heap.size < w1.heap.size := by have := hb1.size; simp at this; omega
  have k0 : w1.cell? ⟨w.heap.size, 0, none⟩ = some (.int .i64 s.kind) := (later_cell hb1 (by simp)).trans (new_cell _ 0)
  have k1 : w1.cell? ⟨w.heap.size, 1, none⟩ = some (.int .i64 s.x) := (later_cell hb1 (by simp)).trans (new_cell _ 1)
  have k2 : w1.cell? ⟨w.heap.size, 2, none⟩ = some (.int .i64 s.y) := (later_cell hb1 (by simp)).trans (new_cell _ 2)
  have k3 : w1.cell? ⟨w.heap.size, 3, none⟩ = some (.int .i64 s.cx) := (later_cell hb1 (by simp)).trans (new_cell _ 3)
  have k4 : w1.cell? ⟨w.heap.size, 4, none⟩ = some (.int .i64 s.cy) := (later_cell hb1 (by simp)).trans (new_cell _ 4)
  have hs1 := h.below hB1
  clear hb1 h
  cases hok : mayB l
  · have HE1 := Lib.hid (show E = ([], 1) by rw [← HE.out, onL, hok]; rfl)
    clear HE
    go_wp2
    go_ret2
    rw [HE1.out]
    exact ⟨none, 0, rfl, own_nil, hB1⟩
  · by_cases h0 : n = 0
    · have hl0 := List.length_eq_zero_iff.1 (hl.trans h0)
      have HE1 := Lib.hid (show E = ([], 13) by rw [← HE.out, onL, hok, if_pos hl0]; rfl)
      clear HE hl0
      subst h0
      go_wp2
      go_ret2
      rw [HE1.out]
      exact ⟨none, 0, rfl, own_nil, hB1⟩
    · have hl0 : l ≠ [] := fun e => h0 (by rw [← hl, e]; rfl)
      have hn0 : ((n : Int) == 0) = false := by simp; omega
      have hn1 : (n == 0) = false := by simp; omega
      have hn2 : 1 ≤ n := by omega
      have HL0 := Lib.hid hl0
      clear hl0 h0
      go_wp2_with fail
      refine (coords_any _ _ _).mono ?_; rintro e w2 ⟨rfl, rfl⟩
      cases hnr1 : (co s.x && co s.y)
      · have HE1 := Lib.hid (show E = ([], 2) by rw [← HE.out, onL, hok, if_neg (by simp), if_neg HL0.out, if_pos (by rw [near4, hnr1]; rfl)])
        clear HE
        go_wp2
        go_ret2
        rw [HE1.out]
        exact ⟨none, 0, rfl, own_nil, hB1⟩
      · go_wp2_with fail
        refine (coords_any _ _ _).mono ?_; rintro e w2 ⟨rfl, rfl⟩
        cases hnr2 : (co s.cx && co s.cy)
        · have HE1 := Lib.hid (show E = ([], 2) by rw [← HE.out, onL, hok, if_neg (by simp), if_neg HL0.out, if_pos (by rw [near4, hnr1, hnr2]; rfl)])
          clear HE
          go_wp2
          go_ret2
          rw [HE1.out]
          exact ⟨none, 0, rfl, own_nil, hB1⟩
        · have hnr : nearB [s.x, s.y, s.cx, s.cy] = true := by rw [near4, hnr1, hnr2]; rfl
          obtain ⟨b, off, rfl, hb, c0, -⟩ := hs1.sg (n - 1) (by omega) (by omega)
          obtain ⟨g1, -, -⟩ := last_get (l := l) (by omega)
          simp only [hl] at g1
          rw [← g1] at c0
          clear g1 hnr1 hnr2
          by_cases hk4 : lastK l = 4
          · obtain ⟨⟨px, py⟩, hp⟩ : ∃ p, lastMv l = p := ⟨_, rfl⟩
            have hpt : ptL l = (px, py, true) := by rw [ptL_yes HL0.out hok, if_pos hk4, hp]
            have HE1 := Lib.hid (show longL l [⟨1, px, py, 0, 0⟩, s] = E by rw [← HE.out, onL, hok, if_neg (by simp), if_neg HL0.out, hnr, if_neg (by simp), if_pos hk4, hpt])
            have hk4' : (lastK l == 4) = true := by simp [hk4]
            have HP := Lib.hid hp
            clear hk4 HE hp hpt hnr
            go_wp2_with fail
            refine (ref_start_any _ _ _ l _ _ (by omega) hs1 HP.out).mono ?_; rintro e w4 ⟨rfl, q, rfl⟩
            go_wp2_with fail
            refine (rcopied_any _ _ _ _ _ _ l [⟨1, px, py, 0, 0⟩, s] E _ (by omega) (by omega) ((hs1.drewN q).below (bal (Below.refl _ _) _)) (sl_newN (sgs [⟨1, px, py, 0, 0⟩, s]) rfl rfl) HE1.out).mono ?_
            rintro e w5 ⟨A5, c5, rfl, hown5, hb5⟩
            go_wp2
            go_ret2
            exact ⟨A5, c5, rfl, own_mono hown5 (bal (bdrewN hB1 q) _).size, btr (bal (bdrewN hB1 q) _) hb5⟩
          · have HE1 := Lib.hid (show longL l [s] = E by rw [← HE.out, onL, hok, if_neg (by simp), if_neg HL0.out, hnr, if_neg (by simp), if_neg hk4])
            have hk4' : (lastK l == 4) = false := by simp [hk4]
            clear hk4 HE hnr
            go_wp2_with fail
            refine (rcopied_any _ _ _ _ _ _ l [s] E _ (by omega) (by omega) (hs1.below (bal (Below.refl _ _) _)) (sl_newN (sgs [s]) rfl rfl) HE1.out).mono ?_
            rintro e w5 ⟨A5, c5, rfl, hown5, hb5⟩
            go_wp2
            go_ret2
            exact ⟨A5, c5, rfl, own_mono hown5 (bal hB1 _).size, btr (bal hB1 _) hb5⟩

end Go.Proofs.YtdfkbbcoolgfiaaGreat

namespace Go.Proofs.YtdfkbbcoolgfiaaGreat
open Go.RowKit

set_option maxHeartbeats 1000000 in
theorem ref_Join_any (A B : Option Addr) (n c m d : Nat) (l k : List Sg) (E : List Sg × Int) (w : World) (hm : n ≤ 100000) (hm2 : m ≤ 100000) (hnc : n ≤ c) (h : Sl w 5 A n (sgs l)) (h2 : Sl w 5 B m (sgs k)) (hE : joinL l k = E) :
    Calls Tryz.prog 104 #[.slice A n c, .slice B m d] w fun e w' => ∃ A' c', e = .returned (.tuple #[.slice A' E.1.length c', .int .i64 E.2]) ∧
      w'.ownsRow w.heap.size 63 5 (.slice A' E.1.length c') E.1.length (sgs E.1) ∧ Below w.heap.size w w' := by
  have hl := h.sglen
  have hk := h2.sglen
  have HE := Lib.hid hE
  clear hE
  go_enter Tryz.func104, Tryz.ntmps104
  go_wp2_with fail
  refine (ref_May_any _ _ _ l _ (by omega) h).mono ?_; rintro e w1 ⟨rfl, hb1⟩
  have hs1 := h.below hb1
  have ht1 := h2.below hb1
  cases hok : mayB l
  · have HE1 := Lib.hid (show E = ([], 1) by rw [← HE.out, joinL, if_pos (.inl hok)])
    clear HE
    go_wp2
    go_ret2
    rw [HE1.out]
    exact ⟨none, 0, rfl, own_nil, hb1⟩
  · go_wp2_with fail
    refine (ref_May_any _ _ _ k _ (by omega) ht1).mono ?_; rintro e w2 ⟨rfl, hb2⟩
    have hs2 := hs1.below hb2
    have ht2 := ht1.below hb2
    have hB2 := btr hb1 hb2
    clear h h2 hs1 ht1
    cases hok2 : mayB k
    · have HE1 := Lib.hid (show E = ([], 1) by rw [← HE.out, joinL, if_pos (.inr hok2)])
      clear HE
      go_wp2
      go_ret2
      rw [HE1.out]
      exact ⟨none, 0, rfl, own_nil, hB2⟩
    · have hnn : ¬ (mayB l = false ∨ mayB k = false) := by simp [hok, hok2]
      have HJ := Lib.hid (show longL (if lastK l = 1 ∧ k ≠ [] then l.dropLast else l) k = E by rw [← HE.out]; unfold joinL; rw [if_neg hnn])
      clear hnn HE hok hok2
      by_cases h0 : m = 0
      · have hl0 := List.length_eq_zero_iff.1 (hk.trans h0)
        have HE1 := Lib.hid (show longL l k = E by rw [← HJ.out, if_neg (by simp [hl0])])
        clear HJ hl0
        subst h0
        go_wp2_with fail
        refine (rcopied_any _ _ _ _ _ _ l k E _ (by omega) (by omega) hs2 ht2 HE1.out).mono ?_
        rintro e w4 ⟨A4, c4, rfl, hown4, hb4⟩
        go_wp2
        go_ret2
        exact ⟨A4, c4, rfl, own_mono hown4 hB2.size, btr hB2 hb4⟩
      · have hd1 : decide (0 < m) = true := by simp; omega
        have hd2 : decide (0 < (m : Int)) = true := by simp; omega
        have hl0 : k ≠ [] := fun e => h0 (by rw [← hk, e]; rfl)
        by_cases h9 : n = 0
        · have hln := List.length_eq_zero_iff.1 (hl.trans h9)
          have HE1 := Lib.hid (show longL l k = E by rw [← HJ.out, if_neg (by rw [hln]; rintro ⟨e, _⟩; cases e)])
          clear HJ hln hl0 h0
          subst h9
          go_wp2_with fail
          refine (rcopied_any _ _ _ _ _ _ l k E _ (by omega) (by omega) hs2 ht2 HE1.out).mono ?_
          rintro e w4 ⟨A4, c4, rfl, hown4, hb4⟩
          go_wp2
          go_ret2
          exact ⟨A4, c4, rfl, own_mono hown4 hB2.size, btr hB2 hb4⟩
        · have he1 : decide (0 < n) = true := by simp; omega
          have he2 : decide (0 < (n : Int)) = true := by simp; omega
          have hn1 : 1 ≤ n := by omega
          obtain ⟨b, off, rfl, hb, f0, -⟩ := hs2.sg (n - 1) (by omega) (by omega)
          obtain ⟨g1, -, -⟩ := last_get (l := l) (by omega)
          simp only [hl] at g1
          rw [← g1] at f0
          clear g1 h9 h0
          by_cases hk1 : lastK l = 1
          · have HE1 := Lib.hid (show longL l.dropLast k = E by rw [← HJ.out, if_pos ⟨hk1, hl0⟩])
            have hk1' : (lastK l == 1) = true := by simp [hk1]
            clear hk1 HJ hl0
            go_wp2_with fail
            refine (rcopied_any _ _ _ _ _ _ l.dropLast k E _ (by omega) (by omega) hs2.front ht2 HE1.out).mono ?_
            rintro e w4 ⟨A4, c4, rfl, hown4, hb4⟩
            go_wp2
            go_ret2
            exact ⟨A4, c4, rfl, own_mono hown4 hB2.size, btr hB2 hb4⟩
          · have HE1 := Lib.hid (show longL l k = E by rw [← HJ.out, if_neg (by simp [hk1])])
            have hk1' : (lastK l == 1) = false := by simp [hk1]
            clear hk1 HJ hl0
            go_wp2_with fail
            refine (rcopied_any _ _ _ _ _ _ l k E _ (by omega) (by omega) hs2 ht2 HE1.out).mono ?_
            rintro e w4 ⟨A4, c4, rfl, hown4, hb4⟩
            go_wp2
            go_ret2
            exact ⟨A4, c4, rfl, own_mono hown4 hB2.size, btr hB2 hb4⟩

end Go.Proofs.YtdfkbbcoolgfiaaGreat
