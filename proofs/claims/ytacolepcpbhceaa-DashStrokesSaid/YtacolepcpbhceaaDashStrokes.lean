/- The walk of DashStrokes: it returns true. -/
import Derived.Test.YtacolepcpbhceaaDash7
import Derived.Test.YtacolepcpbhceaaStrokeJoins
import Derived.Test.YtacolepcpbhceaaDashStrokesP
namespace Go.Proofs.Ytacolepcpbhceaa
open Go.RowKit Go.BigFrame

structure StD (w : World) (g : Nat) (a b c : Int) : Prop where
  lt : g < w.heap.size
  c0 : w.cell? ⟨g, 0, none⟩ = some (.int .i64 a)
  c1 : w.cell? ⟨g, 1, none⟩ = some (.int .i64 b)
  c2 : w.cell? ⟨g, 2, none⟩ = some (.int .i64 c)
theorem StD.below {w w' : World} {g : Nat} {a b c : Int} (h : StD w g a b c) (hb : Below w.heap.size w w') : StD w' g a b c :=
  ⟨Nat.lt_of_lt_of_le h.lt hb.size, (later_cell hb h.lt).trans h.c0, (later_cell hb h.lt).trans h.c1, (later_cell hb h.lt).trans h.c2⟩
theorem StD.new {w : World} {t : TypeId} (a b c : Int) : StD (w.alloc (.cells #[.int .i64 a, .int .i64 b, .int .i64 c] t)) w.heap.size a b c :=
  ⟨by simp, new_cell _ 0, new_cell _ 1, new_cell _ 2⟩

theorem cut_iv {n p q f : Int} (hn : 1 ≤ n ∧ n ≤ 8191) : cutL [p, q] f (levelL n) = if 300 < ((iv [p, q] f n).flatMap sgI).length then ([], 5) else ((iv [p, q] f n).flatMap sgI, 0) := by
  rw [cutL_level hn.1 hn.2 (by simp), lvl_iv]
theorem keepS3 {W w' : World} {g : Nat} {a b c : Value} (hb : Below W.heap.size W w') (hg : g < W.heap.size)
    (h : W.cell? ⟨g, 0, none⟩ = some a ∧ W.cell? ⟨g, 1, none⟩ = some b ∧ W.cell? ⟨g, 2, none⟩ = some c) :
    w'.cell? ⟨g, 0, none⟩ = some a ∧ w'.cell? ⟨g, 1, none⟩ = some b ∧ w'.cell? ⟨g, 2, none⟩ = some c := by
  obtain ⟨h0, h1, h2⟩ := h
  exact ⟨(later_cell hb hg).trans h0, (later_cell hb hg).trans h1, (later_cell hb hg).trans h2⟩

set_option maxRecDepth 100000 in
set_option maxHeartbeats 4000000 in
theorem DashStrokes_any (long a b frm wi x y : Int) (w : World) : Calls Try.prog 9 #[.int .i64 long, .int .i64 a, .int .i64 b, .int .i64 frm, .int .i64 wi, .int .i64 x, .int .i64 y] w fun e w' => e = .returned (.bool true) ∧ Below w.heap.size w w' := by
  have k1 : 0 ≤ placeI long 200 ∧ placeI long 200 < 200 := by unfold placeI; omega
  have k2 : 0 ≤ placeI a 30 ∧ placeI a 30 < 30 := by unfold placeI; omega
  have k3 : 0 ≤ placeI b 30 ∧ placeI b 30 < 30 := by unfold placeI; omega
  have k5 : 0 ≤ placeI wi 60 ∧ placeI wi 60 < 60 := by unfold placeI; omega
  have k6 : 0 ≤ placeI x 240 ∧ placeI x 240 < 240 := by unfold placeI; omega
  have k7 : 0 ≤ placeI y 80 ∧ placeI y 80 < 80 := by unfold placeI; omega
  obtain ⟨n, hn⟩ : ∃ n, n = placeI long 200 := ⟨_, rfl⟩
  obtain ⟨p, hp⟩ : ∃ n, n = placeI a 30 := ⟨_, rfl⟩
  obtain ⟨q, hq⟩ : ∃ n, n = placeI b 30 := ⟨_, rfl⟩
  obtain ⟨wd, hwd⟩ : ∃ n, n = placeI wi 60 := ⟨_, rfl⟩
  obtain ⟨u, hu⟩ : ∃ n, n = placeI x 240 := ⟨_, rfl⟩
  obtain ⟨v, hv⟩ : ∃ n, n = placeI y 80 := ⟨_, rfl⟩
  have HN := Lib.hid hn
  have HP := Lib.hid hp
  have HQ := Lib.hid hq
  have HW := Lib.hid hwd
  have HU := Lib.hid hu
  have HV := Lib.hid hv
  clear hn hp hq hwd hu hv
  go_enter Try.func9, Try.ntmps9
  go_wp2_with fail
  refine (known35_any _).mono ?_; rintro e w1 ⟨rfl, hb1⟩
  go_wp2_with fail
  with_reducible refine (Place_any long 200 _ (by omega) (by omega)).mono ?_; rintro e w2 ⟨rfl, rfl⟩
  rw [← HN.out] at k1 ⊢
  go_wp2_with fail
  with_reducible refine (Place_any a 30 _ (by omega) (by omega)).mono ?_; rintro e w2 ⟨rfl, rfl⟩
  rw [← HP.out] at k2 ⊢
  go_wp2_with fail
  with_reducible refine (Place_any b 30 _ (by omega) (by omega)).mono ?_; rintro e w2 ⟨rfl, rfl⟩
  rw [← HQ.out] at k3 ⊢
  go_wp2_with fail
  have ez : (1 : Int) + p + (1 + q) = 1 + p + (1 + q) := rfl
  with_reducible refine (Place_any frm (1 + p + (1 + q)) _ (by omega) (by omega)).mono ?_; rintro e w2 ⟨rfl, rfl⟩
  have k4 : 0 ≤ placeI frm (1 + p + (1 + q)) ∧ placeI frm (1 + p + (1 + q)) < 1 + p + (1 + q) := by
    unfold placeI; exact ⟨Int.emod_nonneg _ (by omega), Int.emod_lt_of_pos _ (by omega)⟩
  obtain ⟨f, hf⟩ : ∃ f, f = placeI frm (1 + p + (1 + q)) := ⟨_, rfl⟩
  rw [← hf] at k4 ⊢
  clear hf ez
  go_wp2_with fail
  with_reducible refine (Place_any wi 60 _ (by omega) (by omega)).mono ?_; rintro e w2 ⟨rfl, rfl⟩
  rw [← HW.out] at k5 ⊢
  go_wp2_with fail
  obtain ⟨w3, hw3⟩ : ∃ w3 : World, w3 = w1.alloc (.cells #[.int .i64 wd, .int .i64 0, .int .i64 0] 58) := ⟨_, rfl⟩
  rw [← hw3]
  have hst : StD w3 w1.heap.size wd 0 0 := by rw [hw3]; exact StD.new _ _ _
  have B3 : Below w.heap.size w w3 := by rw [hw3]; exact bal hb1 _
  clear hw3
  with_reducible refine (Place_any x 240 _ (by omega) (by omega)).mono ?_; rintro e w2 ⟨rfl, rfl⟩
  rw [← HU.out] at k6 ⊢
  go_wp2_with fail
  with_reducible refine (Place_any y 80 _ (by omega) (by omega)).mono ?_; rintro e w2 ⟨rfl, rfl⟩
  rw [← HV.out] at k7 ⊢
  obtain ⟨n, rfl⟩ : ∃ m, n = m - 1 := ⟨n + 1, by omega⟩
  obtain ⟨p, rfl⟩ : ∃ m, p = m - 1 := ⟨p + 1, by omega⟩
  obtain ⟨q, rfl⟩ : ∃ m, q = m - 1 := ⟨q + 1, by omega⟩
  have en : (1 : Int) + (n - 1) = n := by omega
  have ep : (1 : Int) + (p - 1) = p := by omega
  have eq' : (1 : Int) + (q - 1) = q := by omega
  rw [en, ep, eq']
  rw [ep, eq'] at k4
  clear en ep eq'
  clear HN HP HQ HW HU HV
  have hn8 : 1 ≤ n ∧ n ≤ 8191 := by omega
  have r1 := row_pair' (p := p) (q := q) (by omega) (by omega)
  have r2 := row_pair' (p := q) (q := p) (by omega) (by omega)
  obtain ⟨⟨L1, er1⟩, hL1⟩ : ∃ r, cutL [p, q] f (levelL n) = r := ⟨_, rfl⟩
  obtain ⟨⟨L2, er2⟩, hL2⟩ : ∃ r, cutL [q, p] (f + q) (levelL n) = r := ⟨_, rfl⟩
  obtain ⟨m1, hm1⟩ : ∃ m, L1.length = m := ⟨_, rfl⟩
  obtain ⟨m2, hm2⟩ : ∃ m, L2.length = m := ⟨_, rfl⟩
  have hI1 := cut_iv (p := p) (q := q) (f := f) hn8
  have hI2 := cut_iv (p := q) (q := p) (f := f + q) hn8
  rw [hL1] at hI1
  rw [hL2] at hI2
  have he1 : (er1 = 0 ∧ L1 = (iv [p, q] f n).flatMap sgI ∧ L1.length ≤ 300) ∨ er1 = 5 := by
    split at hI1
    · exact .inr (Prod.mk.inj hI1).2
    · obtain ⟨a, b⟩ := Prod.mk.inj hI1; exact .inl ⟨b, a, by rw [a]; omega⟩
  have he2 : (er2 = 0 ∧ L2 = (iv [q, p] (f + q) n).flatMap sgI ∧ L2.length ≤ 300) ∨ er2 = 5 := by
    split at hI2
    · exact .inr (Prod.mk.inj hI2).2
    · obtain ⟨a, b⟩ := Prod.mk.inj hI2; exact .inl ⟨b, a, by rw [a]; omega⟩
  have HL1 := Lib.hid hL1
  have HL2 := Lib.hid hL2
  have HM1 := Lib.hid hm1
  have HM2 := Lib.hid hm2
  have HR1 := Lib.hid r1.1
  have HR2 := Lib.hid r2.1
  have HE1 := Lib.hid he1
  have HE2 := Lib.hid he2
  clear hL1 hL2 hI1 hI2 r1 r2 he1 he2 hm1 hm2
  go_wp2_with fail
  refine (level_any n _).mono ?_; rintro e w4 ⟨A4, c4, rfl, hs4, hb4⟩
  have hst4 := hst.below hb4
  have B4 := btr B3 hb4
  go_wp2_with fail
  refine (Cut_is _ _ _ _ _ _ (levelL n) [p, q] f L1 er1 m1 _ (hs4.below (bal (Below.refl _ _) _)) (level_may (by omega) (by omega)) (level_nobow _) (sl_new (ints [p, q]) rfl rfl) (.inr ⟨HR1.out, by simp⟩) (by omega) HL1.out HM1.out).mono ?_; rintro e w5 ⟨A5, c5, rfl, hown5, hb5⟩
  have B5 := btr (bal B4 _) hb5
  have hst5 := hst4.below (btr (bal (Below.refl _ _) _) hb5)
  have hp5 := own_sl hown5
  clear hb4 hb5 hown5 hst hst4 hs4 B3 B4
  go_wp2_with fail
  refine (level_any n _).mono ?_; rintro e w6 ⟨A6, c6, rfl, hs6, hb6⟩
  have hst6 := hst5.below hb6
  have hp6 := hp5.below hb6
  have B6 := btr B5 hb6
  go_wp2_with fail
  refine (Cut_is _ _ _ _ _ _ (levelL n) [q, p] (f + q) L2 er2 m2 _ (hs6.below (bal (Below.refl _ _) _)) (level_may (by omega) (by omega)) (level_nobow _) (sl_new (ints [q, p]) rfl rfl) (.inr ⟨HR2.out, by simp⟩) (by omega) HL2.out HM2.out).mono ?_; rintro e w7 ⟨A7, c7, rfl, hown7, hb7⟩
  have B7 := btr (bal B6 _) hb7
  have hb67 := btr (bal (Below.refl _ _) (.cells (ints [q, p]).toArray 3)) hb7
  have hst7 := hst6.below hb67
  have hp7 := hp6.below hb67
  have hg7 := own_sl hown7
  clear hb6 hb7 hb67 hown7 hst5 hst6 hs6 B5 B6 hp5 hp6
  rcases HE1.out with ⟨rfl, hv1, hl1⟩ | rfl
  · rcases HE2.out with ⟨rfl, hv2, hl2⟩ | rfl
    · have i1 := iv_in (f := f) HR1.out (n := n) (by omega)
      have i2 := iv_in (f := f + q) HR2.out (n := n) (by omega)
      have q1 : (iv [p, q] f n).length ≤ 150 := by rw [hv1, sgI_len] at hl1; omega
      have q2 : (iv [q, p] (f + q) n).length ≤ 150 := by rw [hv2, sgI_len] at hl2; omega
      have hlaw := strokes_law (n := n) (p := p) (q := q) (f := f) (w := wd) (u := u - 20) (v := v - 40) (by omega) (by omega) (by omega) (by omega) (by omega) q1 q2
      rw [← hv1, ← hv2] at hlaw
      obtain ⟨r, hr⟩ : ∃ r, r = covL (levelL n) ⟨wd, 0, 0⟩ (u - 20) (v - 40) := ⟨_, rfl⟩
      obtain ⟨b1, hb1'⟩ : ∃ r, r = covL L1 ⟨wd, 0, 0⟩ (u - 20) (v - 40) := ⟨_, rfl⟩
      obtain ⟨b2, hb2'⟩ : ∃ r, r = covL L2 ⟨wd, 0, 0⟩ (u - 20) (v - 40) := ⟨_, rfl⟩
      rw [← hr, ← hb1', ← hb2'] at hlaw
      have V0 := Lib.hid (show inL (levelL n) ⟨wd, 0, 0⟩ (u - 20) (v - 40) = r by
        rw [hr]; exact inL_made (level_may (by omega) (by omega)) (level_nobow _) (by simp only; omega) (by simp) (by simp) (by omega) (by omega))
      have V1 := Lib.hid (show inL L1 ⟨wd, 0, 0⟩ (u - 20) (v - 40) = b1 by
        rw [hb1']; exact inL_made (by rw [hv1]; exact sgI_may (by omega) i1 q1) (by rw [hv1]; exact sgI_nobow _) (by simp only; omega) (by simp) (by simp) (by omega) (by omega))
      have V2 := Lib.hid (show inL L2 ⟨wd, 0, 0⟩ (u - 20) (v - 40) = b2 by
        rw [hb2']; exact inL_made (by rw [hv2]; exact sgI_may (by omega) i2 q2) (by rw [hv2]; exact sgI_nobow _) (by simp only; omega) (by simp) (by simp) (by omega) (by omega))
      have hm1 := HM1.out
      have hm2 := HM2.out
      have hmm1 : m1 ≤ 300 := by omega
      have hmm2 : m2 ≤ 300 := by omega
      clear hr hb1' hb2' hv1 hv2 i1 i2 q1 q2 hl1 hl2 HE1 HE2 HL1 HL2 HR1 HR2 HM1 HM2 hm1 hm2
      have hS0 := And.intro hst7.c0 (And.intro hst7.c1 hst7.c2)
      have hlt7 := hst7.lt
      go_wp2_with fail
      go_region_held3 (fun w' => w'.cell? ⟨w1.heap.size, 0, none⟩ = some (.int .i64 wd) ∧ w'.cell? ⟨w1.heap.size, 1, none⟩ = some (.int .i64 0) ∧ w'.cell? ⟨w1.heap.size, 2, none⟩ = some (.int .i64 0))
        (first | with_reducible exact keepS3 (W := w7) (by assumption) hlt7 hS0 | go_keep)
        (first
          | (go_at_call 21; with_reducible refine (level_any n _).mono ?_; rintro e w8 ⟨A8, c8, rfl, hs8, hb8⟩; have BA : Below w7.heap.size w7 w8 := btr (by repeat (first | with_reducible exact Below.refl _ _ | with_reducible refine bdrew ?_)) hb8)
          | (go_at_call 24; with_reducible refine (In_st (l := levelL n) _ V0.out (by omega) hs8).mono ?_; rintro e w9 ⟨rfl, hb9⟩; have BB := btr BA hb9))
      all_goals
        have hst9 := hst7.below BB
        have hp9 := hp7.below BB
        have hg9 := hg7.below BB
        have B9 := btr B7 BB
        have s0 := hst9.c0
        have s1 := hst9.c1
        have s2 := hst9.c2
        clear hst7 hp7 hg7 hS0 BA hs8 hb8 hb9
        go_wp2_with fail
        refine (In_st (l := L1) _ V1.out (by omega) hp9).mono ?_; rintro e w10 ⟨rfl, hb10⟩
        have hst10 := hst9.below hb10
        have t0 := hst10.c0
        have t1 := hst10.c1
        have t2 := hst10.c2
        have hg10 := hg9.below hb10
        have B10 := btr B9 hb10
        cases b1
        · go_wp2_with fail
          refine (In_st (l := L2) _ V2.out (by omega) hg10).mono ?_; rintro e w11 ⟨rfl, hb11⟩
          have hrb : r = b2 := by simpa using hlaw
          clear hlaw
          subst hrb
          go_wp2_with fail
          go_ret
          exact ⟨ret_b (by simp), btr B10 hb11⟩
        · have hrb : r = true := by simpa using hlaw
          clear hlaw
          subst hrb
          go_wp2_with fail
          go_ret
          exact ⟨rfl, B10⟩
    · clear HE1 HE2 HL1 HL2
      go_wp2_with fail
      go_ret
      exact ⟨rfl, B7⟩
  · rcases HE2.out with ⟨rfl, hv2, hl2⟩ | rfl
    · clear HE1 HE2 HL1 HL2
      go_wp2_with fail
      go_ret
      exact ⟨rfl, B7⟩
    · clear HE1 HE2 HL1 HL2
      go_wp2_with fail
      go_ret
      exact ⟨rfl, B7⟩
end Go.Proofs.Ytacolepcpbhceaa
