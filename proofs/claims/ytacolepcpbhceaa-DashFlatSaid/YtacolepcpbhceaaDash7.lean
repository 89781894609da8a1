/- tympanlaw35: level, known, Lengths. -/
import Derived.Test.YtacolepcpbhceaaDash6
import Derived.Test.YtacolepcpbhceaaAllP
import Derived.Test.YtacolepcpbhceaaSame
import Derived.Test.YtacolepcpbhceaaMade
namespace Go.Proofs.Ytacolepcpbhceaa
open Go.RowKit

/-- Lengths that may be. -/
def OnOK (on : List Int) : Prop := on = [] ∨ (Row on ∧ on.length ≤ 11)
theorem Cut_any (A A0 : Option Addr) (n c n0 c0 : Nat) (l : List Sg) (on : List Int) (f : Int) (r : List Sg × Int) (w : World) (h : Sl w 5 A n (sgs l)) (hok : mayB l = true) (hb : ∀ s ∈ l, s.kind ≠ 3)
    (ho : Sl w 1 A0 n0 (ints on)) (hon : OnOK on) (hf : 0 ≤ f ∧ f ≤ 2147483647) (hr : cutL on f l = r) :
    Calls Try.prog 15 #[.slice A n c, .slice A0 n0 c0, .int .i64 f] w (CutPost w r) := by
  subst hr
  rcases hon with rfl | ⟨h1, h2⟩
  · have hl := ho.intlen
    obtain rfl : 0 = n0 := by simpa using hl
    exact Cut_nil A A0 n c c0 l f w h hok hb hf
  · exact Cut_row A A0 n c n0 c0 l on f w h hok hb ho h1 h2 hf

theorem Cut_is (A A0 : Option Addr) (n c n0 c0 : Nat) (l : List Sg) (on : List Int) (f : Int) (L : List Sg) (er : Int) (m : Nat) (w : World) (h : Sl w 5 A n (sgs l)) (hok : mayB l = true) (hb : ∀ s ∈ l, s.kind ≠ 3)
    (ho : Sl w 1 A0 n0 (ints on)) (hon : OnOK on) (hf : 0 ≤ f ∧ f ≤ 2147483647) (hr : cutL on f l = (L, er)) (hm : L.length = m) :
    Calls Try.prog 15 #[.slice A n c, .slice A0 n0 c0, .int .i64 f] w fun e w' => ∃ A' c', e = .returned (.tuple #[.slice A' m c', .int .i64 er]) ∧ w'.ownsRow w.heap.size 36 5 (.slice A' m c') m (sgs L) ∧ Below w.heap.size w w' := by
  subst hm
  exact (Cut_any A A0 n c n0 c0 l on f (L, er) w h hok hb ho hon hf hr).mono fun _ _ ⟨A', c', h1, h2, h3⟩ => ⟨A', c', h1, h2, h3⟩

theorem level_any (n : Int) (w : World) : Calls Try.prog 21 #[.int .i64 n] w fun e w' => ∃ A c, e = .returned (.slice A 2 c) ∧ Sl w' 5 A 2 (sgs (levelL n)) ∧ Below w.heap.size w w' := by
  go_enter Try.func21, Try.ntmps21
  go_wp2
  go_ret
  exact ⟨_, _, rfl, sl_newN (sgs (levelL n)) rfl rfl, bal (Below.refl _ _) _⟩

theorem row_42 : Row [4, 2] := ⟨by simp, by simp, by simp⟩
theorem row_03 : Row [0, 3] := ⟨by simp, by simp, by simp⟩
theorem level_nobow (n : Int) : ∀ s ∈ levelL n, s.kind ≠ 3 := by simp [levelL]
def r1 : List Sg := [⟨1, 0, 0, 0, 0⟩, ⟨2, 4, 0, 0, 0⟩, ⟨1, 6, 0, 0, 0⟩, ⟨2, 10, 0, 0, 0⟩]
def r2 : List Sg := [⟨1, 2, 0, 0, 0⟩, ⟨2, 6, 0, 0, 0⟩, ⟨1, 8, 0, 0, 0⟩, ⟨2, 10, 0, 0, 0⟩]
def r3 : List Sg := [⟨1, 0, 0, 0, 0⟩, ⟨2, 0, 0, 0, 0⟩, ⟨1, 3, 0, 0, 0⟩, ⟨2, 3, 0, 0, 0⟩]

set_option maxHeartbeats 2000000 in
theorem known35_any (w : World) : Calls Try.prog 11 #[] w fun e w' => e = .returned (.bool true) ∧ Below w.heap.size w w' := by
  go_enter Try.func11, Try.ntmps11
  go_wp2_with fail
  refine (level_any _ _).mono ?_; rintro e w1 ⟨A1, c1, rfl, hs1, hb1⟩
  go_wp2_with fail
  refine (Cut_is _ _ _ _ _ _ (levelL 10) [4, 2] 0 r1 0 4 _ (hs1.below (bal (Below.refl _ _) _)) (level_may (by omega) (by omega)) (level_nobow _) (sl_new (ints [4, 2]) rfl rfl) (.inr ⟨row_42, by simp⟩) (by omega) known_1 rfl).mono ?_
  rintro e w2 ⟨A2, c2, rfl, hown2, hb2⟩
  have B2 := btr (bal hb1 _) hb2
  have hp2 : Sl w2 5 A2 4 (sgs r1) := own_sl hown2
  clear hb1 hb2 hown2 hs1
  go_wp2_with fail
  refine (level_any _ _).mono ?_; rintro e w3 ⟨A3, c3, rfl, hs3, hb3⟩
  go_wp2_with fail
  refine (Cut_is _ _ _ _ _ _ (levelL 10) [4, 2] 4 r2 0 4 _ (hs3.below (bal (Below.refl _ _) _)) (level_may (by omega) (by omega)) (level_nobow _) (sl_new (ints [4, 2]) rfl rfl) (.inr ⟨row_42, by simp⟩) (by omega) known_2 rfl).mono ?_
  rintro e w4 ⟨A4, c4, rfl, hown4, hb4⟩
  have B24 := btr (bal hb3 _) hb4
  have B4 := btr B2 B24
  have hp4 := hp2.below B24
  have hq4 : Sl w4 5 A4 4 (sgs r2) := own_sl hown4
  clear hb3 hb4 hown4 hs3 hp2 B2 B24
  go_wp2_with fail
  refine (level_any _ _).mono ?_; rintro e w5 ⟨A5, c5, rfl, hs5, hb5⟩
  go_wp2_with fail
  refine (Cut_is _ _ _ _ _ _ (levelL 5) [0, 3] 0 r3 0 4 _ (hs5.below (bal (Below.refl _ _) _)) (level_may (by omega) (by omega)) (level_nobow _) (sl_new (ints [0, 3]) rfl rfl) (.inr ⟨row_03, by simp⟩) (by omega) known_3 rfl).mono ?_
  rintro e w6 ⟨A6, c6, rfl, hown6, hb6⟩
  have B46 := btr (bal hb5 _) hb6
  have B6 := btr B4 B46
  have hp6 := hp4.below B46
  have hq6 := hq4.below B46
  have hr6 : Sl w6 5 A6 4 (sgs r3) := own_sl hown6
  clear hb5 hb6 hown6 hs5 hp4 hq4 B4 B46
  go_wp2_with fail
  refine (sameSg_any _ _ _ _ _ _ r1 _ (by omega) (hp6.below (bal (Below.refl _ _) _)) (sl_newN (sgs r1) rfl rfl)).mono ?_; rintro e w7 ⟨rfl, q7, rfl⟩
  go_wp2_with fail
  refine (sameSg_any _ _ _ _ _ _ r2 _ (by omega) (((hq6.below (bal (Below.refl _ _) _)).drewN _).below (bal (Below.refl _ _) _)) (sl_newN (sgs r2) (by simp) rfl)).mono ?_; rintro e w8 ⟨rfl, q8, rfl⟩
  go_wp2_with fail
  refine (sameSg_any _ _ _ _ _ _ r3 _ (by omega) (((((hr6.below (bal (Below.refl _ _) _)).drewN _).below (bal (Below.refl _ _) _)).drewN _).below (bal (Below.refl _ _) _)) (sl_newN (sgs r3) (by simp) rfl)).mono ?_; rintro e w9 ⟨rfl, q9, rfl⟩
  go_wp2
  go_ret
  exact ⟨rfl, bdrewN (bal (bdrewN (bal (bdrewN (bal B6 _) _) _) _) _) _⟩

/-- What lengths by numbers are. -/
def LenOK (on : List Int) : Prop := OnOK on ∧ ∀ v ∈ on, 0 ≤ v ∧ v ≤ 40
theorem lens_ok {l : List Int} (hl : l.length ≤ 11) (h : ∀ v ∈ l, 0 ≤ v ∧ v < 40) : LenOK (l.set 0 (l.getD 0 0 + 1)) := by
  cases l with
  | nil => exact ⟨.inl rfl, fun v hv => by simp at hv⟩
  | cons a l =>
    have ha := h a (by simp)
    have hs : 0 ≤ l.sum := by
      have := sum_bd (on := l) (fun v hv => (h v (by simp [hv])).1) (fun v hv => by have := (h v (by simp [hv])).2; omega) l.length (Nat.le_refl _)
      rw [List.take_length] at this; exact this.1
    have hv : ∀ v ∈ (a :: l).set 0 ((a :: l).getD 0 0 + 1), 0 ≤ v ∧ v ≤ 40 := by
      intro v hv
      simp only [List.set_cons_zero, List.mem_cons, List.getD_cons_zero] at hv
      rcases hv with rfl | hv
      · omega
      · have := h v (by simp [hv]); omega
    refine ⟨.inr ⟨⟨fun v hh => (hv v hh).1, fun v hh => by have := (hv v hh).2; omega, ?_⟩, by simpa using hl⟩, hv⟩
    simp only [List.set_cons_zero, List.getD_cons_zero, List.sum_cons]; omega

set_option maxRecDepth 100000 in
set_option maxHeartbeats 1000000 in
theorem Lengths_any (A : Option Addr) (n c : Nat) (w : World) (h : InA w A n) (hnc : n ≤ c) (_hcm : c ≤ 9223372036854775807) :
    Calls Try.prog 13 #[.slice A n c] w fun e w' => ∃ on A' c', e = .returned (.slice A' on.length c') ∧ w'.ownsRow w.heap.size 3 1 (.slice A' on.length c') on.length (ints on) ∧ LenOK on ∧ Below w.heap.size w w' := by
  go_enter Try.func13, Try.ntmps13
  go_wp2
  go_loopw [3, 4] (fun out i wr => ∃ (k : Nat) (A' : Option Addr) (c' : Nat) (l : List Int), k ≤ 11 ∧ k ≤ n ∧ out = .slice A' k c' ∧ i = .int .i64 (k : Int) ∧ Below w.heap.size w wr ∧ wr.ownsRow w.heap.size 3 1 (.slice A' k c') k (ints l) ∧ Hid (∀ v ∈ l, 0 ≤ v ∧ v < 40)) (fun _ i _ => 11 - (intOf i).toNat)
  case atStart => exact ⟨0, none, 0, [], by omega, by omega, rfl, rfl, Below.refl _ _, own_nil, fun v hv => by simp at hv⟩
  case round =>
    obtain ⟨wo, rfl⟩ : ∃ wo : World, wo = wr := ⟨_, rfl⟩
    obtain ⟨k, A', c', l, hk11, hkn, rfl, rfl, hb, hown, hv⟩ := hrel
    by_cases hlt : k < n ∧ k < 11
    · obtain ⟨hlt1, hlt2⟩ := hlt
      obtain ⟨b, off, rfl, hbl, hz⟩ := h (by omega)
      obtain ⟨z, c0⟩ := hz k hlt1
      replace c0 := (later_cell hb hbl).trans c0
      have hsz := hb.size
      clear hz
      go_wp2_with fail
      refine (Place_any z 40 _ (by omega) (by omega)).mono ?_; rintro e' w' ⟨rfl, rfl⟩
      have hp : 0 ≤ placeI z 40 ∧ placeI z 40 < 40 := by unfold placeI; omega
      obtain ⟨pz, hpz⟩ : ∃ pz, pz = placeI z 40 := ⟨_, rfl⟩
      rw [← hpz] at hp ⊢
      clear hpz
      go_wp2_with (at_builtin; refine wpList_app rfl _ _ 22 rfl w.heap.size inT2 rfl (own_below hown (bal (Below.refl _ _) _)) (ints [pz]) rfl (sl_newN _ (by simp) rfl) (oneCell_ints _) (by omega) (by simp; omega) ?_; intro A5 c5 w5 hown5 hg5 hat5)
      go_roundw
      case rel => exact ⟨k + 1, A5, c5, l ++ [pz], by omega, by omega, rfl, by go_num, grown_below (bal hb _) hg5 (own_below hown (bal (Below.refl _ _) _)), by rw [ints_app]; exact hown5, fun v hvv => by
        rw [List.mem_append, List.mem_singleton] at hvv
        rcases hvv with hvv | rfl
        · exact hv.out v hvv
        · exact hp⟩
      case measure => simp [intOf]; omega
    · have hll := (own_sl hown).intlen
      have hlo := lens_ok (l := l) (by omega) hv.out
      have HLO := Lib.hid hlo
      have HLL := Lib.hid hll
      clear hlo hll
      by_cases hk0 : k = 0
      · subst hk0
        have hl0 : l = [] := List.eq_nil_of_length_eq_zero HLL.out
        subst hl0
        have hn0 : n = 0 := by omega
        subst hn0
        go_wp2
        go_ret
        exact ⟨[], A', c', rfl, hown, HLO.out, hb⟩
      · obtain ⟨g, rfl, hgb, hgl⟩ := own_addr hown (by omega)
        obtain ⟨b, off, e, hbb, c0⟩ := (own_sl hown).intAt 0 (by omega) (by rw [HLL.out]; omega)
        injection e with e; injection e with e1 e2; subst e1; subst e2
        have hfz : wo.frozen? ⟨g, 0, none⟩ = false := hown.frozenAt 0
        have hg0 : l[0]'(by rw [HLL.out]; omega) = l.getD 0 0 := by rw [List.getD_eq_getElem?_getD, List.getElem?_eq_getElem (by rw [HLL.out]; omega)]; rfl
        rw [hg0] at c0
        have hv0 := hv.out _ (by rw [← hg0]; exact List.getElem_mem (by rw [HLL.out]; omega) : l.getD 0 0 ∈ l)
        have hst := hown.stored 0 (.int .i64 (l.getD 0 0 + 1))
        have hset : (ints l).set 0 (.int .i64 (l.getD 0 0 + 1)) = ints (l.set 0 (l.getD 0 0 + 1)) := by simp [ints, List.map_set]
        rw [hset] at hst
        obtain ⟨z, hz⟩ : ∃ z, z = l.getD 0 0 := ⟨_, rfl⟩
        rw [← hz] at c0 hv0 hst
        have HST := Lib.hid hst
        have HZ := Lib.hid hz
        have hk1 : 0 < k := by omega
        have hbs := bset hb (p := ⟨g, 0, none⟩) hgb (.int .i64 (z + 1))
        rw [Nat.add_zero] at c0
        clear hg0 hst hset hz hv
        by_cases hkn' : k < n
        · have hk9 : ¬ k < 11 := fun hh => hlt ⟨hkn', hh⟩
          clear hlt
          go_wp2
          go_ret
          have hl9 : (l.set 0 (z + 1)).length = k := by rw [List.length_set]; exact HLL.out
          exact ⟨l.set 0 (z + 1), some ⟨g, 0, none⟩, c', by rw [hl9]; rfl, by rw [hl9]; exact HST.out.1, by rw [HZ.out]; exact HLO.out, hbs⟩
        · clear hlt
          go_wp2
          go_ret
          have hl9 : (l.set 0 (z + 1)).length = k := by rw [List.length_set]; exact HLL.out
          exact ⟨l.set 0 (z + 1), some ⟨g, 0, none⟩, c', by rw [hl9]; rfl, by rw [hl9]; exact HST.out.1, by rw [HZ.out]; exact HLO.out, hbs⟩
end Go.Proofs.Ytacolepcpbhceaa
