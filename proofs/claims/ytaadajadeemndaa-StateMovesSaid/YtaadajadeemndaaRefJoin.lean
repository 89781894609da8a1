/- tympanref25.Join. -/
import Derived.Test.YtaadajadeemndaaRefAdd2
import Derived.Deep.DeepCutAuto
namespace Go.Proofs.Ytaadajadeemndaa
open Go.RowKit

set_option maxHeartbeats 1000000 in
theorem ref_Join_any (A B : Option Addr) (n c m d : Nat) (l k : List Sg) (E : List Sg × Int) (w : World) (hm : n ≤ 100000) (hm2 : m ≤ 100000) (hnc : n ≤ c) (h : Sl w 5 A n (sgs l)) (h2 : Sl w 5 B m (sgs k)) (hE : joinL l k = E) :
    Calls Try.prog 61 #[.slice A n c, .slice B m d] w fun e w' => ∃ A' c', e = .returned (.tuple #[.slice A' E.1.length c', .int .i64 E.2]) ∧
      w'.ownsRow w.heap.size 42 5 (.slice A' E.1.length c') E.1.length (sgs E.1) ∧ Below w.heap.size w w' := by
  have hl := h.sglen
  have hk := h2.sglen
  have HE := Lib.hid hE
  clear hE
  go_enter Try.func61, Try.ntmps61
  go_wp2_with fail
  refine (ref_May_any _ _ _ l _ (by omega) h).mono ?_; rintro e w1 ⟨rfl, hb1⟩
  have hs1 := h.below hb1
  have ht1 := h2.below hb1
  cases hok : mayB l
  · have HE1 := Lib.hid (show E = ([], 1) by rw [← HE.out, joinL, if_pos (.inl hok)])
    clear HE
    go_wp2
    go_ret2
    rw [HE1.out]
    exact ⟨none, 0, rfl, own_nil, hb1⟩
  · go_wp2_with fail
    refine (ref_May_any _ _ _ k _ (by omega) ht1).mono ?_; rintro e w2 ⟨rfl, hb2⟩
    have hs2 := hs1.below hb2
    have ht2 := ht1.below hb2
    have hB2 := btr hb1 hb2
    clear h h2 hs1 ht1
    cases hok2 : mayB k
    · have HE1 := Lib.hid (show E = ([], 1) by rw [← HE.out, joinL, if_pos (.inr hok2)])
      clear HE
      go_wp2
      go_ret2
      rw [HE1.out]
      exact ⟨none, 0, rfl, own_nil, hB2⟩
    · have hnn : ¬ (mayB l = false ∨ mayB k = false) := by simp [hok, hok2]
      have HJ := Lib.hid (show longL (if lastK l = 1 ∧ k ≠ [] then l.dropLast else l) k = E by rw [← HE.out]; unfold joinL; rw [if_neg hnn])
      clear hnn HE hok hok2
      by_cases h0 : m = 0
      · have hl0 := List.length_eq_zero_iff.1 (hk.trans h0)
        have HE1 := Lib.hid (show longL l k = E by rw [← HJ.out, if_neg (by simp [hl0])])
        clear HJ hl0
        subst h0
        go_wp2_with fail
        refine (rcopied_any _ _ _ _ _ _ l k E _ (by omega) (by omega) hs2 ht2 HE1.out).mono ?_
        rintro e w4 ⟨A4, c4, rfl, hown4, hb4⟩
        go_wp2
        go_ret2
        exact ⟨A4, c4, rfl, own_mono hown4 hB2.size, btr hB2 hb4⟩
      · have hd1 : decide (0 < m) = true := by simp; omega
        have hd2 : decide (0 < (m : Int)) = true := by simp; omega
        have hl0 : k ≠ [] := fun e => h0 (by rw [← hk, e]; rfl)
        by_cases h9 : n = 0
        · have hln := List.length_eq_zero_iff.1 (hl.trans h9)
          have HE1 := Lib.hid (show longL l k = E by rw [← HJ.out, if_neg (by rw [hln]; rintro ⟨e, _⟩; cases e)])
          clear HJ hln hl0 h0
          subst h9
          go_wp2_with fail
          refine (rcopied_any _ _ _ _ _ _ l k E _ (by omega) (by omega) hs2 ht2 HE1.out).mono ?_
          rintro e w4 ⟨A4, c4, rfl, hown4, hb4⟩
          go_wp2
          go_ret2
          exact ⟨A4, c4, rfl, own_mono hown4 hB2.size, btr hB2 hb4⟩
        · have he1 : decide (0 < n) = true := by simp; omega
          have he2 : decide (0 < (n : Int)) = true := by simp; omega
          have hn1 : 1 ≤ n := by omega
          obtain ⟨b, off, rfl, hb, f0, -⟩ := hs2.sg (n - 1) (by omega) (by omega)
          obtain ⟨g1, -, -⟩ := last_get (l := l) (by omega)
          simp only [hl] at g1
          rw [← g1] at f0
          clear g1 h9 h0
          by_cases hk1 : lastK l = 1
          · have HE1 := Lib.hid (show longL l.dropLast k = E by rw [← HJ.out, if_pos ⟨hk1, hl0⟩])
            have hk1' : (lastK l == 1) = true := by simp [hk1]
            clear hk1 HJ hl0
            go_wp2_with fail
            refine (rcopied_any _ _ _ _ _ _ l.dropLast k E _ (by omega) (by omega) hs2.front ht2 HE1.out).mono ?_
            rintro e w4 ⟨A4, c4, rfl, hown4, hb4⟩
            go_wp2
            go_ret2
            exact ⟨A4, c4, rfl, own_mono hown4 hB2.size, btr hB2 hb4⟩
          · have HE1 := Lib.hid (show longL l k = E by rw [← HJ.out, if_neg (by simp [hk1])])
            have hk1' : (lastK l == 1) = false := by simp [hk1]
            clear hk1 HJ hl0
            go_wp2_with fail
            refine (rcopied_any _ _ _ _ _ _ l k E _ (by omega) (by omega) hs2 ht2 HE1.out).mono ?_
            rintro e w4 ⟨A4, c4, rfl, hown4, hb4⟩
            go_wp2
            go_ret2
            exact ⟨A4, c4, rfl, own_mono hown4 hB2.size, btr hB2 hb4⟩

end Go.Proofs.Ytaadajadeemndaa
