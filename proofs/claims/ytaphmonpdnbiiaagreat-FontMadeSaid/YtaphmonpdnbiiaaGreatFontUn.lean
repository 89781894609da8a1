/- tympanlaw24.Unit; a text of one letter, plainly. -/
import Derived.Test.YtaphmonpdnbiiaaGreatMFt
namespace Go.Proofs.YtaphmonpdnbiiaaGreat
open Go.RowKit Go.BigFrame

theorem point_co2 {M : Mt} {x y : Int} (h : (pointM M x y).2.2 = 0) : co (pointM M x y).1 = true ∧ co (pointM M x y).2.1 = true := by
  unfold pointM at h ⊢
  split at h
  · rename_i hg
    rw [if_pos hg]
    unfold nearP at h ⊢
    split at h
    · cases h
    · rename_i hn
      rw [if_neg hn]
      simp only [co, Bool.and_eq_true, decide_eq_true_eq]; omega
  · cases h
theorem plS_piece {M : Mt} {s : Sg} (hp : pieceB s = true) (h : (plS M s).2 = 0) : pieceB (plS M s).1 = true ∧ (plS M s).1.kind = s.kind := by
  unfold plS at h ⊢
  by_cases h3 : s.kind = 3
  · rw [if_pos h3] at h ⊢
    by_cases hc : (pointM M (s.cx * 65536) (s.cy * 65536)).2.2 ≠ 0
    · rw [if_pos hc] at h; exact absurd h hc
    · rw [if_neg hc] at h ⊢
      obtain ⟨c1, c2⟩ := point_co2 (Decidable.of_not_not hc)
      obtain ⟨c3, c4⟩ := point_co2 h
      refine ⟨?_, rfl⟩
      simp [pieceB, h3, c1, c2, c3, c4]
  · rw [if_neg h3] at h ⊢
    by_cases h4 : s.kind = 4
    · rw [if_pos h4]; exact ⟨hp, rfl⟩
    · rw [if_neg h4] at h ⊢
      obtain ⟨c3, c4⟩ := point_co2 h
      refine ⟨?_, rfl⟩
      simp [pieceB, h3, h4] at hp
      simp [pieceB, hp.1, c3, c4, hp.2.1.2, hp.2.2]
theorem plL_may {M : Mt} : ∀ (l O : List Sg) (a : Int), mayFrom a l = true → (plL M O l).2 = 0 → ∃ d, (plL M O l).1 = O ++ d ∧ d.length = l.length ∧ mayFrom a d = true
  | [], O, a, _, _ => ⟨[], by simp [plL], rfl, rfl⟩
  | s :: l, O, a, hm, h => by
    unfold plL at h ⊢
    by_cases hs : (plS M s).2 ≠ 0
    · rw [if_pos hs] at h; exact absurd h hs
    · rw [if_neg hs] at h ⊢
      simp only [mayFrom, Bool.and_eq_true] at hm
      obtain ⟨q1, q2⟩ := plS_piece (rightB_iff.1 hm.1).1 (Decidable.of_not_not hs)
      obtain ⟨d, e1, e2, e3⟩ := plL_may l _ s.kind hm.2 h
      refine ⟨(plS M s).1 :: d, by rw [e1]; simp, by simp [e2], ?_⟩
      simp only [mayFrom, Bool.and_eq_true]
      refine ⟨rightB_iff.2 ⟨q1, ?_⟩, by rw [q2]; exact e3⟩
      rw [q2]; exact (rightB_iff.1 hm.1).2
theorem place_may {F : Fo} {m : Mt} {x y : Int} {l : List Sg} (hl : mayB l = true) (h : (placeF F m x y l).2 = 0) : mayB (placeF F m x y l).1 = true := by
  unfold placeF at h ⊢
  split at h
  · rename_i hh; exact absurd h hh
  · rename_i h1
    rw [if_neg h1]
    split at h
    · rename_i hh; exact absurd h hh
    · rename_i h2
      rw [if_neg h2]
      obtain ⟨d, e1, e2, e3⟩ := plL_may l [] 0 (mayB_from hl).1 h
      rw [e1, List.nil_append]
      unfold mayB
      rw [e3, decide_eq_true (by have := may_len hl; omega)]; rfl
theorem place_bad {F : Fo} {m : Mt} {x y : Int} {l : List Sg} (h : (placeF F m x y l).2 ≠ 0) : (placeF F m x y l).1 = [] := by
  have key : ∀ (M : Mt) (l O : List Sg), (plL M O l).2 ≠ 0 → (plL M O l).1 = [] := by
    intro M l
    induction l with
    | nil => intro O h; exact absurd rfl h
    | cons s l ih =>
      intro O h
      unfold plL at h ⊢
      split at h
      · rename_i hs; rw [if_pos hs]
      · rename_i hs; rw [if_neg hs]; exact ih _ h
  unfold placeF at h ⊢
  split at h
  · rename_i h1; rw [if_pos h1]
  · rename_i h1
    rw [if_neg h1]
    split at h
    · rename_i h2; rw [if_pos h2]
    · rename_i h2; rw [if_neg h2]; exact key _ _ _ h
/-- A text of one letter. -/
theorem alone_law {F : Fo} {k : Int} (hF : MadeF F) (hk : 1 ≤ k ∧ k ≤ 3) (hm : F.m = scaleM k) {m : Mt} (hmm : mtB m = true) {p q : Int} (hp : Bd 39 p) (hq : Bd 39 q) {ch : Nat} (hc : ch < 3) {L : List Sg} {wd : Int} (hr : runF F ch = ((L, wd), 0)) (hL : PaOK L) (hw : 0 ≤ wd ∧ wd ≤ 24)
    {P : List Sg} {pe : Int} (hP : placeF F m (p * 65536) (q * 65536) L = (P, pe)) :
    pathF F m (p * 65536) (q * 65536) ch = (P, pe) ∧ outF F m (p * 65536) (q * 65536) [ch] = (if pe ≠ 0 then (([], 0, 0), pe) else ((P, (p + k * wd) * 65536, q * 65536), 0)) ∧ aimM F.m (wd * 65536) 0 = (k * wd * 65536, 0, 0) ∧ (pe ≠ 0 → P = []) ∧ P.length ≤ 300 := by
  have fx : fixB (p * 65536) = true := fix_p (by unfold Bd at *; omega)
  have fy : fixB (q * 65536) = true := fix_p (by unfold Bd at *; omega)
  have ha := aim_whole (z := wd) hk (by unfold Bd; omega)
  have hkz := mul_bdF (n := 3) (m := 24) (x := k) (y := wd) (by unfold Bd; omega) (by unfold Bd; omega) (by omega) (by omega)
  have hst : stepF F ch [] = wd := by unfold stepF; rw [hr]; simp
  refine ⟨(pathF_made hF hmm fx fy hr).trans hP, ?_, by rw [hm]; exact ha, fun h => ?_, ?_⟩
  · rw [outF_made hF hmm fx fy, outS, hr]
    simp only [ne_eq, not_true_eq_false, if_false, hP, hst, hm, ha]
    by_cases hpe : pe = 0
    · have hPm : mayB P = true := by have := place_may (F := F) (m := m) (x := p * 65536) (y := q * 65536) hL.may; rw [hP] at this; exact this hpe
      rw [nil_join hPm]
      have e1 : p * 65536 + k * wd * 65536 = (p + k * wd) * 65536 := by grind
      have e2 : q * 65536 + 0 = q * 65536 := by omega
      rw [e1, e2]
      have f1 : fixB ((p + k * wd) * 65536) = true := fixB_of (by unfold Bd at *; omega) (by unfold Bd at *; omega)
      rw [f1, fy]
      simp [hpe, outS]
    · simp [hpe]
  · have := place_bad (F := F) (m := m) (x := p * 65536) (y := q * 65536) (l := L); rw [hP] at this; exact this h
  · have h2 := placeF_len F m (p * 65536) (q * 65536) L; rw [hP] at h2; have h3 := hL.2.1; exact Nat.le_trans h2 (by omega)
def bA : Nat → Int | 0 => 1 | 1 => 1 | 2 => 7 | 3 => 7 | _ => 41
def bC : Nat → Int | 0 => 1 | 1 => 3 | 2 => 3 | _ => 17
set_option maxRecDepth 100000 in
set_option maxHeartbeats 4000000 in
theorem Unit_any (A : Option Addr) (n c : Nat) (zs : List Int) (w : World) (hnc : n ≤ c) (hcm : c ≤ 9223372036854775807) (h : Sl w 1 A n (ints zs)) :
    Calls Tryz.prog 8 #[.slice A n c] w fun r w' => ∃ a b c d : Int, r = .returned (mtv (wholeM a b c d 0 0)) ∧ (Bd 41 a ∧ Bd 41 b ∧ Bd 41 c ∧ Bd 41 d) ∧ Below w.heap.size w w' := by
  have hzl : zs.length = n := by have := h.1; simp [ints] at this; omega
  obtain ⟨w0, hw0⟩ : ∃ w0 : World, w0 = w.alloc (.cells (mtC zeroM).toArray 25) := ⟨_, rfl⟩
  have hB0 : Below w.heap.size w w0 := by rw [hw0]; exact bal (Below.refl _ _) _
  have hZ : BC w0 w.heap.size (mtC zeroM) := by rw [hw0]; exact BC.new (mtC zeroM) 25 rfl
  have hs0 := h.below hB0
  have hz6 : (mtC zeroM).toArray = #[.int .i64 0, .int .i64 0, .int .i64 0, .int .i64 0, .int .i64 0, .int .i64 0] := rfl
  rw [hz6] at hw0
  clear hz6 h
  go_enter Tryz.func8, Tryz.ntmps8
  go_upto_region 1 with (fail)
  rw [← hw0]
  clear hw0
  go_wp2_with fail
  go_loopw [3, 4, 5, 6, 7] (fun av bv cv dv iv wr => ∃ (i : Nat) (a b c d : Int), i ≤ n ∧ i ≤ 4 ∧ av = .int .i64 a ∧ bv = .int .i64 b ∧ cv = .int .i64 c ∧ dv = .int .i64 d ∧ iv = .int .i64 (i : Int) ∧ wr = w0 ∧ Hid (Bd (bA i) a ∧ Bd (bA i) b ∧ Bd (bC i) c ∧ Bd (bC i) d)) (fun _ _ _ _ iv _ => n - (intOf iv).toNat)
  case atStart => exact ⟨0, 1, 0, 0, 1, by omega, by omega, rfl, rfl, rfl, rfl, rfl, rfl, Lib.hid (by refine ⟨?_, ?_, ?_, ?_⟩ <;> (show Bd 1 _; unfold Bd; omega))⟩
  case round =>
    obtain ⟨i, a, b, c', d, hi, hi4, rfl, rfl, rfl, rfl, rfl, rfl, hbd⟩ := hrel
    by_cases hlt : i < n ∧ i < 4
    · have hkl : i < zs.length := by omega
      obtain ⟨bb, off, rfl, hb, hc⟩ := hs0.2 (by omega)
      have d0 : wr.cell? ⟨bb, off + i, none⟩ = some (.int .i64 zs[i]) := hc i _ (by simp [ints, List.getElem?_eq_getElem hkl])
      obtain ⟨z, hz⟩ : ∃ z, zs[i] = z := ⟨_, rfl⟩
      rw [hz] at d0
      have HPl := Lib.hid fun W => Place_any z 5 W (by omega) (by omega)
      have hr := placeI_range z 5 (by omega)
      obtain ⟨p, hp⟩ : ∃ p, placeI z 5 = p := ⟨_, rfl⟩
      rw [hp] at hr HPl
      obtain ⟨kv, hkv0⟩ : ∃ kv, kv = p - 2 := ⟨_, rfl⟩
      have hkw : IntKind.i64.wrap (p - 2) = kv := by rw [hkv0]; exact IntWalk.i64_in _ (by omega)
      have hkv : Bd 2 kv := by unfold Bd; omega
      obtain ⟨x1, x2, x3, x4⟩ := hbd.out
      clear hz hc hp hkv0 hr
      rcases (show i = 0 ∨ i = 1 ∨ i = 2 ∨ i = 3 by omega) with rfl | rfl | rfl | rfl
      · rw [Nat.add_zero] at d0
        have y1 : Bd 1 a := x1
        have y2 : Bd 1 b := x2
        have y3 : Bd 1 c' := x3
        have y4 : Bd 1 d := x4
        have m1 := mul_bdF (n := 2) (m := 1) (x := kv) hkv y1 (by omega) (by omega)
        have m2 := mul_bdF (n := 2) (m := 1) (x := kv) hkv y2 (by omega) (by omega)
        have f1 : IntKind.i64.wrap (kv * a) = kv * a := IntWalk.i64_in _ (by unfold Bd at *; omega)
        have f2 : IntKind.i64.wrap (kv * b) = kv * b := IntWalk.i64_in _ (by unfold Bd at *; omega)
        have f3 : IntKind.i64.wrap (c' + kv * a) = c' + kv * a := IntWalk.i64_in _ (by unfold Bd at *; omega)
        have f4 : IntKind.i64.wrap (d + kv * b) = d + kv * b := IntWalk.i64_in _ (by unfold Bd at *; omega)
        have HB := Lib.hid (show Bd 1 a ∧ Bd 1 b ∧ Bd 3 (c' + kv * a) ∧ Bd 3 (d + kv * b) by unfold Bd at *; omega)
        clear m1 m2 y1 y2 y3 y4 x1 x2 x3 x4 hkv
        go_wp2_with fail
        refine (HPl.out _).mono ?_; rintro e w' ⟨rfl, rfl⟩
        go_wp2_with fail
        go_roundw
        case rel => exact ⟨_, a, b, c' + kv * a, d + kv * b, hlt.1, by omega, rfl, rfl, rfl, rfl, by go_num, trivial, HB⟩
        case measure => (simp [intOf]) <;> omega
      · have y1 : Bd 1 a := x1
        have y2 : Bd 1 b := x2
        have y3 : Bd 3 c' := x3
        have y4 : Bd 3 d := x4
        have m1 := mul_bdF (n := 2) (m := 3) (x := kv) hkv y3 (by omega) (by omega)
        have m2 := mul_bdF (n := 2) (m := 3) (x := kv) hkv y4 (by omega) (by omega)
        have f1 : IntKind.i64.wrap (kv * c') = kv * c' := IntWalk.i64_in _ (by unfold Bd at *; omega)
        have f2 : IntKind.i64.wrap (kv * d) = kv * d := IntWalk.i64_in _ (by unfold Bd at *; omega)
        have f3 : IntKind.i64.wrap (a + kv * c') = a + kv * c' := IntWalk.i64_in _ (by unfold Bd at *; omega)
        have f4 : IntKind.i64.wrap (b + kv * d) = b + kv * d := IntWalk.i64_in _ (by unfold Bd at *; omega)
        have HB := Lib.hid (show Bd 7 (a + kv * c') ∧ Bd 7 (b + kv * d) ∧ Bd 3 c' ∧ Bd 3 d by unfold Bd at *; omega)
        clear m1 m2 y1 y2 y3 y4 x1 x2 x3 x4 hkv
        go_wp2_with fail
        refine (HPl.out _).mono ?_; rintro e w' ⟨rfl, rfl⟩
        go_wp2_with fail
        go_roundw
        case rel => exact ⟨_, a + kv * c', b + kv * d, c', d, hlt.1, by omega, rfl, rfl, rfl, rfl, by go_num, trivial, HB⟩
        case measure => (simp [intOf]) <;> omega
      · have y1 : Bd 7 a := x1
        have y2 : Bd 7 b := x2
        have y3 : Bd 3 c' := x3
        have y4 : Bd 3 d := x4
        have m1 := mul_bdF (n := 2) (m := 7) (x := kv) hkv y1 (by omega) (by omega)
        have m2 := mul_bdF (n := 2) (m := 7) (x := kv) hkv y2 (by omega) (by omega)
        have f1 : IntKind.i64.wrap (kv * a) = kv * a := IntWalk.i64_in _ (by unfold Bd at *; omega)
        have f2 : IntKind.i64.wrap (kv * b) = kv * b := IntWalk.i64_in _ (by unfold Bd at *; omega)
        have f3 : IntKind.i64.wrap (c' + kv * a) = c' + kv * a := IntWalk.i64_in _ (by unfold Bd at *; omega)
        have f4 : IntKind.i64.wrap (d + kv * b) = d + kv * b := IntWalk.i64_in _ (by unfold Bd at *; omega)
        have HB := Lib.hid (show Bd 7 a ∧ Bd 7 b ∧ Bd 17 (c' + kv * a) ∧ Bd 17 (d + kv * b) by unfold Bd at *; omega)
        clear m1 m2 y1 y2 y3 y4 x1 x2 x3 x4 hkv
        go_wp2_with fail
        refine (HPl.out _).mono ?_; rintro e w' ⟨rfl, rfl⟩
        go_wp2_with fail
        go_roundw
        case rel => exact ⟨_, a, b, c' + kv * a, d + kv * b, hlt.1, by omega, rfl, rfl, rfl, rfl, by go_num, trivial, HB⟩
        case measure => (simp [intOf]) <;> omega
      · have y1 : Bd 7 a := x1
        have y2 : Bd 7 b := x2
        have y3 : Bd 17 c' := x3
        have y4 : Bd 17 d := x4
        have m1 := mul_bdF (n := 2) (m := 17) (x := kv) hkv y3 (by omega) (by omega)
        have m2 := mul_bdF (n := 2) (m := 17) (x := kv) hkv y4 (by omega) (by omega)
        have f1 : IntKind.i64.wrap (kv * c') = kv * c' := IntWalk.i64_in _ (by unfold Bd at *; omega)
        have f2 : IntKind.i64.wrap (kv * d) = kv * d := IntWalk.i64_in _ (by unfold Bd at *; omega)
        have f3 : IntKind.i64.wrap (a + kv * c') = a + kv * c' := IntWalk.i64_in _ (by unfold Bd at *; omega)
        have f4 : IntKind.i64.wrap (b + kv * d) = b + kv * d := IntWalk.i64_in _ (by unfold Bd at *; omega)
        have HB := Lib.hid (show Bd 41 (a + kv * c') ∧ Bd 41 (b + kv * d) ∧ Bd 17 c' ∧ Bd 17 d by unfold Bd at *; omega)
        clear m1 m2 y1 y2 y3 y4 x1 x2 x3 x4 hkv
        go_wp2_with fail
        refine (HPl.out _).mono ?_; rintro e w' ⟨rfl, rfl⟩
        go_wp2_with fail
        go_roundw
        case rel => exact ⟨_, a + kv * c', b + kv * d, c', d, hlt.1, by omega, rfl, rfl, rfl, rfl, by go_num, trivial, HB⟩
        case measure => (simp [intOf]) <;> omega
    · obtain ⟨x1, x2, x3, x4⟩ := hbd.out
      have hb41 : Bd 41 a ∧ Bd 41 b ∧ Bd 41 c' ∧ Bd 41 d := by
        rcases (show i = 0 ∨ i = 1 ∨ i = 2 ∨ i = 3 ∨ i = 4 by omega) with rfl | rfl | rfl | rfl | rfl
        · simp only [bA, bC] at x1 x2 x3 x4; unfold Bd at *; omega
        · simp only [bA, bC] at x1 x2 x3 x4; unfold Bd at *; omega
        · simp only [bA, bC] at x1 x2 x3 x4; unfold Bd at *; omega
        · simp only [bA, bC] at x1 x2 x3 x4; unfold Bd at *; omega
        · simp only [bA, bC] at x1 x2 x3 x4; unfold Bd at *; omega
      obtain ⟨y1, y2, y3, y4⟩ := hb41
      have HWa := Lib.hid fun W => Whole_any a b c' d 0 0 W (by unfold Bd at *; omega)
      have HWb := Lib.hid fun W => Whole_any c' d a b 0 0 W (by unfold Bd at *; omega)
      have HY := Lib.hid (show Bd 41 a ∧ Bd 41 b ∧ Bd 41 c' ∧ Bd 41 d from ⟨y1, y2, y3, y4⟩)
      clear x1 x2 x3 x4 y1 y2 y3 y4 hbd
      by_cases hin : i < n
      · obtain rfl : i = 4 := by omega
        have h4 : 4 < n := hin
        have hkl : 4 < zs.length := by omega
        obtain ⟨bb, off, rfl, hb, hc⟩ := hs0.2 (by omega)
        have d0 : wr.cell? ⟨bb, off + 4, none⟩ = some (.int .i64 zs[4]) := hc 4 _ (by simp [ints, List.getElem?_eq_getElem hkl])
        obtain ⟨z, hz⟩ : ∃ z, zs[4] = z := ⟨_, rfl⟩
        rw [hz] at d0
        clear hz hc
        obtain ⟨t, ht⟩ : ∃ t, z.tmod 2 = t := ⟨_, rfl⟩
        have g4 : decide (4 < n) = true := decide_eq_true h4
        by_cases ht0 : t = 0
        · have ht1 : (t != 0) = false := by simp [ht0]
          have ht2 : (z.tmod 2 != 0) = false := by rw [ht]; exact ht1
          clear ht0 ht
          go_wp2_with fail
          refine (HWa.out _).mono ?_; rintro e w9 ⟨rfl, b9⟩
          have hZ9 := hZ.below b9
          have hF := hZ9.putAll (mtC (wholeM a b c' d 0 0)) rfl
          have hFB := below_setCells (Nat.le_refl w.heap.size) (mtC (wholeM a b c' d 0 0)) 0 _ (btr hB0 b9)
          have hv : mtv ⟨a * 65536, b * 65536, c' * 65536, d * 65536, 0 * 65536, 0 * 65536⟩ = .agg (mtC (wholeM a b c' d 0 0)).toArray := rfl
          rw [hv]
          go_wp2_with (first
            | (refine wpList_store_rec rfl _ _ _ rfl w.heap.size (mtC (wholeM a b c' d 0 0)) _ rfl rfl 6 matT2 hZ9 rfl rfl (mtC_oneR _) ?_)
            | fail)
          refine bodyPost_ret (result_rec1 rfl rfl matT2 hF rfl) rfl ?_
          exact ⟨a, b, c', d, rfl, HY.out, hFB⟩
        · have ht1 : (t != 0) = true := by simp [ht0]
          have ht2 : (z.tmod 2 != 0) = true := by rw [ht]; exact ht1
          clear ht0 ht
          go_wp2_with fail
          refine (HWb.out _).mono ?_; rintro e w9 ⟨rfl, b9⟩
          have hZ9 := hZ.below b9
          have hF := hZ9.putAll (mtC (wholeM c' d a b 0 0)) rfl
          have hFB := below_setCells (Nat.le_refl w.heap.size) (mtC (wholeM c' d a b 0 0)) 0 _ (btr hB0 b9)
          have hv : mtv ⟨c' * 65536, d * 65536, a * 65536, b * 65536, 0 * 65536, 0 * 65536⟩ = .agg (mtC (wholeM c' d a b 0 0)).toArray := rfl
          rw [hv]
          go_wp2_with (first
            | (refine wpList_store_rec rfl _ _ _ rfl w.heap.size (mtC (wholeM c' d a b 0 0)) _ rfl rfl 6 matT2 hZ9 rfl rfl (mtC_oneR _) ?_)
            | fail)
          refine bodyPost_ret (result_rec1 rfl rfl matT2 hF rfl) rfl ?_
          exact ⟨c', d, a, b, rfl, ⟨HY.out.2.2.1, HY.out.2.2.2, HY.out.1, HY.out.2.1⟩, hFB⟩
      · obtain rfl : i = n := by omega
        have g4 : decide (4 < i) = false := decide_eq_false (by omega)
        go_wp2_with fail
        refine (HWa.out _).mono ?_; rintro e w9 ⟨rfl, b9⟩
        have hZ9 := hZ.below b9
        have hF := hZ9.putAll (mtC (wholeM a b c' d 0 0)) rfl
        have hFB := below_setCells (Nat.le_refl w.heap.size) (mtC (wholeM a b c' d 0 0)) 0 _ (btr hB0 b9)
        have hv : mtv ⟨a * 65536, b * 65536, c' * 65536, d * 65536, 0 * 65536, 0 * 65536⟩ = .agg (mtC (wholeM a b c' d 0 0)).toArray := rfl
        rw [hv]
        go_wp2_with (first
          | (refine wpList_store_rec rfl _ _ _ rfl w.heap.size (mtC (wholeM a b c' d 0 0)) _ rfl rfl 6 matT2 hZ9 rfl rfl (mtC_oneR _) ?_)
          | fail)
        refine bodyPost_ret (result_rec1 rfl rfl matT2 hF rfl) rfl ?_
        exact ⟨a, b, c', d, rfl, HY.out, hFB⟩
end Go.Proofs.YtaphmonpdnbiiaaGreat
