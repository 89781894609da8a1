/- path.Start, on, Line, Bow, Shut, Join: what they return, and that what was there is as it was. -/
import Derived.Test.YtacolepcpbhceaaAdd
namespace Go.Proofs.Ytacolepcpbhceaa
open Go.RowKit

/-- The shorter slice reads as the shorter list. -/
theorem Sl.front {w : World} {A : Option Addr} {n : Nat} {l : List Sg} (h : Sl w 5 A n (sgs l)) : Sl w 5 A (n - 1) (sgs l.dropLast) := by
  have hl := h.sglen
  refine ⟨by rw [sgs_len, List.length_dropLast, hl], fun hn => ?_⟩
  obtain ⟨b, off, e, hb, hc⟩ := h.2 (by omega)
  refine ⟨b, off, e, hb, fun j u hu => hc j u ?_⟩
  have hs : sgs l = sgs l.dropLast ++ sgs [l[n - 1]'(by omega)] := by
    rw [← sgs_app]
    congr 1
    have hne : l ≠ [] := by intro e; rw [e] at hl; simp at hl; omega
    have := (List.dropLast_concat_getLast hne).symm
    rw [List.getLast_eq_getElem] at this
    simp only [hl] at this
    exact this
  rw [hs, List.getElem?_append_left]
  · exact hu
  · exact (List.getElem?_eq_some_iff.1 hu).1

theorem nearB_near {x y : Int} (h : nearB [x, y] = true) : co x = true ∧ co y = true := by simpa [nearB] using h

set_option maxHeartbeats 1000000 in
theorem Join_any (A B : Option Addr) (n c m d : Nat) (l k : List Sg) (E : List Sg × Int) (w : World) (hm : n ≤ 100000) (hm2 : m ≤ 100000) (hnc : n ≤ c) (h : Sl w 5 A n (sgs l)) (h2 : Sl w 5 B m (sgs k)) (hE : joinL l k = E) :
    Calls Try.prog 22 #[.slice A n c, .slice B m d] w fun e w' => ∃ A' c', e = .returned (.tuple #[.slice A' E.1.length c', .int .i64 E.2]) ∧
      w'.ownsRow w.heap.size 36 5 (.slice A' E.1.length c') E.1.length (sgs E.1) ∧ Below w.heap.size w w' := by
  have hl := h.sglen
  have hk := h2.sglen
  have HE := Lib.hid hE
  clear hE
  go_enter Try.func22, Try.ntmps22
  go_wp2_with fail
  refine (path_May_any _ _ _ l _ (by omega) h).mono ?_; rintro e w1 ⟨rfl, hb1⟩
  have hs1 := h.below hb1
  have ht1 := h2.below hb1
  cases hok : mayB l
  · have HE1 := Lib.hid (show E = ([], 1) by rw [← HE.out, joinL, if_pos (.inl hok)])
    clear HE
    go_wp2
    go_ret2
    rw [HE1.out]
    exact ⟨none, 0, rfl, own_nil, hb1⟩
  · go_wp2_with fail
    refine (path_May_any _ _ _ k _ (by omega) ht1).mono ?_; rintro e w2 ⟨rfl, hb2⟩
    have hs2 := hs1.below hb2
    have ht2 := ht1.below hb2
    have hB2 := btr hb1 hb2
    clear h h2 hs1 ht1
    cases hok2 : mayB k
    · have HE1 := Lib.hid (show E = ([], 1) by rw [← HE.out, joinL, if_pos (.inr hok2)])
      clear HE
      go_wp2
      go_ret2
      rw [HE1.out]
      exact ⟨none, 0, rfl, own_nil, hB2⟩
    · go_wp2_with fail
      refine (last_any _ _ _ l _ (by omega) hs2).mono ?_; rintro e w3 ⟨rfl, rfl⟩
      have hnn : ¬ (mayB l = false ∨ mayB k = false) := by simp [hok, hok2]
      have HJ := Lib.hid (show longL (if lastK l = 1 ∧ k ≠ [] then l.dropLast else l) k = E by rw [← HE.out]; unfold joinL; rw [if_neg hnn])
      clear hnn
      clear HE hok hok2
      by_cases hk1 : lastK l = 1
      · have hn1 : 1 ≤ n := by
          apply Classical.byContradiction; intro h0
          rw [List.length_eq_zero_iff.1 (show l.length = 0 by omega)] at hk1; cases hk1
        have hk1' : (lastK l == 1) = true := by simp [hk1]
        by_cases h0 : m = 0
        · have hl0 := List.length_eq_zero_iff.1 (hk.trans h0)
          have HE1 := Lib.hid (show longL l k = E by rw [← HJ.out, if_neg (by simp [hl0])])
          clear hk1 HJ hl0
          subst h0
          go_wp2_with fail
          refine (longer_any _ _ _ _ _ _ l k E _ (by omega) (by omega) hs2 ht2 HE1.out).mono ?_
          rintro e w4 ⟨A4, c4, rfl, hown4, hb4⟩
          go_wp2
          go_ret2
          exact ⟨A4, c4, rfl, own_mono hown4 hB2.size, btr hB2 hb4⟩
        · have hl0 : k ≠ [] := fun e => h0 (by rw [← hk, e]; rfl)
          have HE1 := Lib.hid (show longL l.dropLast k = E by rw [← HJ.out, if_pos ⟨hk1, hl0⟩])
          have hd : decide (0 < (m : Int)) = true := by simp; omega
          have hd2 : decide (0 < m) = true := by simp; omega
          clear hk1 HJ hl0
          go_wp2_with fail
          refine (longer_any _ _ _ _ _ _ l.dropLast k E _ (by omega) (by omega) hs2.front ht2 HE1.out).mono ?_
          rintro e w4 ⟨A4, c4, rfl, hown4, hb4⟩
          go_wp2
          go_ret2
          exact ⟨A4, c4, rfl, own_mono hown4 hB2.size, btr hB2 hb4⟩
      · have HE1 := Lib.hid (show longL l k = E by rw [← HJ.out, if_neg (by simp [hk1])])
        have hk1' : (lastK l == 1) = false := by simp [hk1]
        clear hk1 HJ
        go_wp2_with fail
        refine (longer_any _ _ _ _ _ _ l k E _ (by omega) (by omega) hs2 ht2 HE1.out).mono ?_
        rintro e w4 ⟨A4, c4, rfl, hown4, hb4⟩
        go_wp2
        go_ret2
        exact ⟨A4, c4, rfl, own_mono hown4 hB2.size, btr hB2 hb4⟩

end Go.Proofs.Ytacolepcpbhceaa
