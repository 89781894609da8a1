/- The walk of StrokeMade: it returns true. -/
import Derived.Test.YtbpgehaflbacmaaStrokeCover
import Derived.Test.YtbpgehaflbacmaaStrokeR5
namespace Go.Proofs.Ytbpgehaflbacmaa
open Go.RowKit Go.BigFrame

theorem Mask_is {A : Option Addr} {n c : Nat} {l : List Sg} {wd cp jn : Int} {a b N : Nat} {xs : List Nat} (w : World) (h : Sl w 5 A n (sgs l)) (ha : 1 ≤ a ∧ a ≤ 64) (hb : 1 ≤ b ∧ b ≤ 64)
    (hpl : plainB l = true) (hms : mayS ⟨wd, cp, jn⟩ = true) (hN : a * b = N) (hx : maskL (covL l ⟨wd, cp, jn⟩) a b = xs) :
    Calls Try.prog 7 #[.slice A n c, .agg #[.int .i64 wd, .int .i64 cp, .int .i64 jn], .int .i64 (a : Int), .int .i64 (b : Int)] w
      fun e w' => ∃ g : Nat, e = .returned (.tuple #[.agg #[.int .i64 (a : Int), .int .i64 (b : Int), .slice (some ⟨g, 0, none⟩) N N], .int .i64 0]) ∧ Sl w' 1 (some ⟨g, 0, none⟩) N (bys xs) ∧ Below w.heap.size w w' := by
  subst hN; subst hx
  refine (Mask_ok A n c l wd cp jn a b w h ha hb hpl hms).mono ?_
  rintro e w' ⟨g, rfl, hr, hB⟩
  exact ⟨g, rfl, hr.sl, hB⟩
theorem bitB_le (b : Bool) : bitB b ≤ 1 := by cases b <;> decide
theorem maskL_le {f : Int → Int → Bool} {a b : Nat} {x : Nat} (h : x ∈ maskL f a b) : x ≤ 1 := by
  unfold maskL at h
  obtain ⟨i, -, rfl⟩ := List.mem_map.1 h
  exact bitB_le _
theorem maskL_get (f : Int → Int → Bool) {a b i j : Nat} (hi : i < a) (hj : j < b) : (maskL f a b)[j * a + i]? = some (bitB (f (16 * (i : Int) + 8) (16 * (j : Int) + 8))) := by
  have h1 : j * a + i < a * b := by
    have : (j + 1) * a ≤ b * a := Nat.mul_le_mul_right a (by omega)
    rw [Nat.mul_comm a b]
    have e : (j + 1) * a = j * a + a := Nat.succ_mul j a
    omega
  have h2 : (j * a + i) % a = i := by rw [Nat.mul_comm, Nat.mul_add_mod]; exact Nat.mod_eq_of_lt hi
  have h3 : (j * a + i) / a = j := by rw [Nat.mul_comm, Nat.mul_add_div (by omega), Nat.div_eq_of_lt hi]; omega
  unfold maskL
  rw [List.getElem?_map, List.getElem?_range h1, Option.map_some, h2, h3]
theorem ref_st {A : Option Addr} {n c : Nat} {l : List Sg} {wd cp jn x y : Int} {r : Bool} (w : World) (hr : inL l ⟨wd, cp, jn⟩ x y = r) (hn : n ≤ 1000000) (h : Sl w 5 A n (sgs l)) :
    Calls Try.prog 13 #[.slice A n c, .agg #[.int .i64 wd, .int .i64 cp, .int .i64 jn], .int .i64 x, .int .i64 y] w fun e w' => e = .returned (.bool r) ∧ Below w.heap.size w w' := by
  subst hr
  exact ref_In_any A n c l wd cp jn x y w hn h

/-- A mask in a block, its bytes in a row. -/
def MPut (w5 : World) (ka kb N : Nat) (xs : List Nat) (s15 s16 : Value) (wx : World) : Prop :=
  ∃ M g : Nat, s15 = .pointer (some ⟨M, 0, none⟩) ∧ s16 = .int .i64 0 ∧ M < wx.heap.size ∧ wx.cell? ⟨M, 0, none⟩ = some (.int .i64 (ka : Int)) ∧ wx.cell? ⟨M, 1, none⟩ = some (.int .i64 (kb : Int)) ∧ wx.cell? ⟨M, 2, none⟩ = some (.slice (some ⟨g, 0, none⟩) N N) ∧ Sl wx 1 (some ⟨g, 0, none⟩) N (bys xs) ∧ Below w5.heap.size w5 wx
theorem MPut.new {w5 w6 : World} {ka kb N g : Nat} {xs : List Nat} (hb : Below w5.heap.size w5 w6) (hR : Sl w6 1 (some ⟨g, 0, none⟩) N (bys xs)) :
    MPut w5 ka kb N xs (.pointer (some ⟨w6.heap.size, 0, none⟩)) (.int .i64 0) (w6.alloc (.cells #[.int .i64 (ka : Int), .int .i64 (kb : Int), .slice (some ⟨g, 0, none⟩) N N] 31)) :=
  ⟨w6.heap.size, g, rfl, rfl, by simp, new_cell _ 0, new_cell _ 1, new_cell _ 2, hR.below (bal (Below.refl _ _) _), bal hb _⟩
theorem MPut.old {w5 w6 : World} {ka kb N g : Nat} {xs : List Nat} (hb : Below w5.heap.size w5 w6) (hR : Sl w6 1 (some ⟨g, 0, none⟩) N (bys xs)) (hN : 1 ≤ N)
    (hk : w6.heap[w5.heap.size]? = some (.cells #[.int .i64 0, .int .i64 0, .slice none 0 0] 31 (0, 0))) :
    MPut w5 ka kb N xs (.pointer (some ⟨w5.heap.size, 0, none⟩)) (.int .i64 0) (((w6.setCell ⟨w5.heap.size, 0, none⟩ (.int .i64 (ka : Int))).setCell ⟨w5.heap.size, 1, none⟩ (.int .i64 (kb : Int))).setCell ⟨w5.heap.size, 2, none⟩ (.slice (some ⟨g, 0, none⟩) N N)) := by
  have hlt := (Array.getElem?_eq_some_iff.1 hk).1
  have cz := fun i => blk_cell i (Lib.hid hk)
  have hlx : xs.length = N := by have := hR.1; simp [bys] at this; omega
  have hne : g ≠ w5.heap.size := by
    intro e
    obtain ⟨b, off, e1, _, hc⟩ := hR.2 (by omega)
    injection e1 with e1; injection e1 with e1 e2
    have h1 := hc 0 _ (bys_get (show 0 < xs.length by omega))
    rw [← e1, ← e2, e, cz] at h1
    cases h1
  have q : w6.grownBy (((w6.setCell ⟨w5.heap.size, 0, none⟩ (.int .i64 (ka : Int))).setCell ⟨w5.heap.size, 1, none⟩ (.int .i64 (kb : Int))).setCell ⟨w5.heap.size, 2, none⟩ (.slice (some ⟨g, 0, none⟩) N N)) (some w5.heap.size) :=
    gset_same (gset_same (gset_same (grefl _ _) 0 _) 1 _) 2 _
  refine ⟨w5.heap.size, g, rfl, rfl, by simpa [World.setCell] using hlt, ?_, ?_, ?_, sl_gg hR q hne, bset (bset (bset hb (by simp) _) (by simp) _) (by simp) _⟩
  · rw [World.cell?_setCell_other _ _ _ _ (by simp), World.cell?_setCell_other _ _ _ _ (by simp)]; exact World.cell?_setCell_same _ _ _ (cz 0)
  · rw [World.cell?_setCell_other _ _ _ _ (by simp)]; exact World.cell?_setCell_same _ _ _ ((World.cell?_setCell_other _ _ _ _ (by simp)).trans (cz 1))
  · exact World.cell?_setCell_same _ _ _ ((World.cell?_setCell_other _ _ _ _ (by simp)).trans ((World.cell?_setCell_other _ _ _ _ (by simp)).trans (cz 2)))
theorem keepM {W w' : World} {g : Nat} {a b c : Value} (hb : Below W.heap.size W w') (hg : g < W.heap.size)
    (h : W.cell? ⟨g, 0, none⟩ = some a ∧ W.cell? ⟨g, 1, none⟩ = some b ∧ W.cell? ⟨g, 2, none⟩ = some c) :
    w'.cell? ⟨g, 0, none⟩ = some a ∧ w'.cell? ⟨g, 1, none⟩ = some b ∧ w'.cell? ⟨g, 2, none⟩ = some c := by
  obtain ⟨h0, h1, h2⟩ := h
  exact ⟨(later_cell hb hg).trans h0, (later_cell hb hg).trans h1, (later_cell hb hg).trans h2⟩
set_option maxRecDepth 100000 in
set_option maxHeartbeats 4000000 in
theorem StrokeMade_any (A : Option Addr) (n c : Nat) (v x y sw sh : Int) (w : World) (h : InA w A n) (hnc : n ≤ c) (hcm : c ≤ 9223372036854775807) :
    Calls Try.prog 3 #[.slice A n c, .int .i64 v, .int .i64 x, .int .i64 y, .int .i64 sw, .int .i64 sh] w fun e w' => e = .returned (.bool true) ∧ Below w.heap.size w w' := by
  obtain ⟨ka, hka⟩ : ∃ k : Nat, 1 + placeI sw 14 = (k : Int) ∧ 1 ≤ k ∧ k ≤ 14 := ⟨(1 + placeI sw 14).toNat, by unfold placeI; omega⟩
  obtain ⟨kb, hkb⟩ : ∃ k : Nat, 1 + placeI sh 14 = (k : Int) ∧ 1 ≤ k ∧ k ≤ 14 := ⟨(1 + placeI sh 14).toNat, by unfold placeI; omega⟩
  have CSA : ∀ W, Calls Try.prog 8 #[.int .i64 sw] W fun e w' => e = .returned (.int .i64 (ka : Int)) ∧ W = w' := fun W => (lawSide_any sw W).mono (by
    rintro e w' ⟨k, rfl, -, -, hk, rfl⟩; rw [← hk, hka.1]; exact ⟨rfl, rfl⟩)
  have CSB : ∀ W, Calls Try.prog 8 #[.int .i64 sh] W fun e w' => e = .returned (.int .i64 (kb : Int)) ∧ W = w' := fun W => (lawSide_any sh W).mono (by
    rintro e w' ⟨k, rfl, -, -, hk, rfl⟩; rw [← hk, hkb.1]; exact ⟨rfl, rfl⟩)
  obtain ⟨-, ha1, ha2⟩ := hka
  obtain ⟨-, hb1, hb2⟩ := hkb
  obtain ⟨N, hN⟩ : ∃ N, ka * kb = N := ⟨_, rfl⟩
  have hN1 : 1 ≤ N := by rw [← hN]; exact Nat.mul_pos (by omega) (by omega)
  have HN := Lib.hid hN
  have HSA := Lib.hid CSA
  have HSB := Lib.hid CSB
  clear hN CSA CSB
  go_enter Try.func3, Try.ntmps3
  go_wp2_with fail
  refine (known33_any _).mono ?_; rintro e w1 ⟨rfl, hbk1⟩
  go_wp2_with fail
  refine (Made_any A n c false w1 (h.below hbk1) hnc hcm).mono ?_; rintro e w2 ⟨l, A2, c2, rfl, hown2, hmd2, hbk2⟩
  have B2 : Below w.heap.size w w2 := btr hbk1 hbk2
  have hp2 := own_sl hown2
  have hlm := hmd2.may
  have hlk := hmd2.2.2.2 rfl
  have hl12 := hmd2.2.1
  clear hbk1 hbk2 hown2 hmd2
  go_wp2_with fail
  refine (Style_any v _).mono ?_; rintro e w4 ⟨rfl, hb4⟩
  have B4 := btr B2 hb4
  have hp4 := hp2.below hb4
  have hso := styI_ok v
  clear hb4 hp2 B2
  obtain ⟨s, hs⟩ : ∃ s, s = styI v := ⟨_, rfl⟩
  rw [← hs] at hso ⊢
  clear hs
  obtain ⟨wd, cp, jn⟩ := s
  simp only at hso
  simp only [syc]
  obtain ⟨v1, v2, v3, v4, v5, v6⟩ := hso
  have hpl : plainB l = true := plainB_iff.2 ⟨hlm, hlk⟩
  have hms : mayS ⟨wd, cp, jn⟩ = true := mayS_iff.2 ⟨by simp only; omega, by simp only; omega, by simp only; omega, by simp only; omega, by simp only; omega, by simp only; omega⟩
  obtain ⟨F, hF⟩ : ∃ F, covL l ⟨wd, cp, jn⟩ = F := ⟨_, rfl⟩
  obtain ⟨xs, hxs⟩ : ∃ xs, maskL F ka kb = xs := ⟨_, rfl⟩
  have hin : ∀ i j : Nat, i < 14 → j < 14 → inL l ⟨wd, cp, jn⟩ (16 * (i : Int) + 8) (16 * (j : Int) + 8) = F (16 * (i : Int) + 8) (16 * (j : Int) + 8) := fun i j hi hj => by
    rw [← hF]; exact inL_made hlm hlk ⟨by simp only; omega, by simp only; omega⟩ ⟨by simp only; omega, by simp only; omega⟩ ⟨by simp only; omega, by simp only; omega⟩ (by omega) (by omega)
  have HIN := Lib.hid hin
  have HX : Hid (maskL (covL l ⟨wd, cp, jn⟩) ka kb = xs) := by rw [hF]; exact hxs
  have HXS := Lib.hid hxs
  have HPL := Lib.hid hpl
  have HMS := Lib.hid hms
  obtain ⟨ll, hll⟩ : ∃ x, l.length = x := ⟨_, rfl⟩
  rw [hll] at hl12 hp4 ⊢
  have HLL := Lib.hid hll
  clear hin hxs hF hpl hms hlm hlk hll
  go_wp2_with fail
  obtain ⟨w5, hw5⟩ : ∃ w5 : World, w5 = w4.alloc (.cells #[.int .i64 wd, .int .i64 cp, .int .i64 jn] 27) := ⟨_, rfl⟩
  rw [← hw5]
  have hst : StIn w5 w4.heap.size wd cp jn := by rw [hw5]; exact StIn.new _ _ _
  have hb45 : Below w4.heap.size w4 w5 := by rw [hw5]; exact bal (Below.refl _ _) _
  have B5 := btr B4 hb45
  have hp5 := hp4.below hb45
  clear hw5 hb45 hp4 B4
  have s0 := hst.c0
  have s1 := hst.c1
  have s2 := hst.c2
  have hlt5 := hst.lt
  have hS0 := And.intro s0 (And.intro s1 s2)
  have hA0 : Below w5.heap.size w5 (w5.alloc (.cells #[.int .i64 0, .int .i64 0, .slice none 0 0] 31)).drew := bdrew (bal (Below.refl _ _) _)
  have hz0 : (w5.alloc (.cells #[.int .i64 0, .int .i64 0, .slice none 0 0] 31)).drew.heap[w5.heap.size]? = some (.cells #[.int .i64 0, .int .i64 0, .slice none 0 0] 31 (0, 0)) := heap_alloc_new _ _
  go_cut [15, 16] (fun s15 s16 wx => MPut w5 ka kb N xs s15 s16 wx)
  case first =>
    go_region_held3 (fun w' => w'.cell? ⟨w4.heap.size, 0, none⟩ = some (.int .i64 wd) ∧ w'.cell? ⟨w4.heap.size, 1, none⟩ = some (.int .i64 cp) ∧ w'.cell? ⟨w4.heap.size, 2, none⟩ = some (.int .i64 jn))
      (first | with_reducible exact hS0 | exact keepM hbA hlt5 hS0 | exact keepM (bal hbA _) hlt5 hS0 | exact keepM (bset (bset (bset hbA (by simp) _) (by simp) _) (by simp) _) hlt5 hS0 | go_keep | fail)
      (first
        | (go_at_call 8; with_reducible refine (HSA.out _).mono ?_; rintro e wA ⟨rfl, rfl⟩)
        | (go_at_call 8; with_reducible refine (HSB.out _).mono ?_; rintro e wA ⟨rfl, rfl⟩)
        | (go_at_call 7; with_reducible refine (Mask_is (l := l) _ hp5.drew (by omega) (by omega) HPL.out HMS.out HN.out HX.out).mono ?_; rintro e w6 ⟨g, rfl, hR6, hb6⟩; have hbA : Below w5.heap.size w5 w6 := btr (bdrew (Below.refl _ _)) hb6)
        | (go_at_call 7; with_reducible refine (Mask_is (l := l) _ (hp5.below hA0) (by omega) (by omega) HPL.out HMS.out HN.out HX.out).mono ?_; rintro e w6 ⟨g, rfl, hR6, hb6⟩; have hbA : Below w5.heap.size w5 w6 := btr hA0 hb6; have kz := Lib.hid ((hb6.block _ (Array.getElem?_eq_some_iff.1 hz0).1).trans hz0); have cz := fun i => blk_cell i kz; have fz := fun i => blk_frozen i kz)
        | fail)
    all_goals
      go_wp2
      go_meet
      first
        | exact MPut.new hbA hR6
        | exact MPut.old hbA hR6 (by omega) kz.out
  case rest =>
    obtain ⟨M, g, rfl, rfl, hlt7, m0, m1, m2, hR7, hb57⟩ := hcut
    obtain ⟨w7, rfl⟩ : ∃ w7 : World, w7 = wc := ⟨_, rfl⟩
    have hp7 := hp5.below hb57
    have hst7 := hst.below hb57
    have B7 := btr B5 hb57
    clear hb57 hp5 hst B5 hS0 s0 s1 s2 hlt5 hA0 hz0
    have t0 := fun q : Grown w7 => q.cell hst7.c0 hst7.lt
    have t1 := fun q : Grown w7 => q.cell hst7.c1 hst7.lt
    have t2 := fun q : Grown w7 => q.cell hst7.c2 hst7.lt
    have n0 := fun q : Grown w7 => q.cell m0 hlt7
    have n1 := fun q : Grown w7 => q.cell m1 hlt7
    have n2 := fun q : Grown w7 => q.cell m2 hlt7
    obtain ⟨pv, hpv⟩ : ∃ b, inL l ⟨wd, cp, jn⟩ (pntI x) (pntI y) = b := ⟨_, rfl⟩
    have HPV := Lib.hid hpv
    have hle : ∀ x ∈ xs, x ≤ 1 := fun x hx => by rw [← HXS.out] at hx; exact maskL_le hx
    have CM := Lib.hid fun W (hs : Sl W 1 (some ⟨g, 0, none⟩) N (bys xs)) => cover_May_ok (some ⟨g, 0, none⟩) N N ka kb xs W hs (by omega) (by omega) HN.out hle
    have CS := Lib.hid fun W => (stroke_May_any ⟨wd, cp, jn⟩ W)
    simp only [HMS.out, syc, maskV] at CS CM
    have hpp : (pv == pv) = true := by simp
    clear hpv hle
    go_wp2_with fail
    refine wp_region_grown (by kernel_rfl) (by kernel_rfl) ?_
    repeat (go_big_quiet_step (first
      | (go_at_call 12; with_reducible exact Calls.grown_same (point_any _ _))
      | (go_at_call 9; with_reducible exact Calls.grown (CS.out _))
      | (go_at_call 10; with_reducible exact Calls.grown (CM.out _ (hR7.below (Grown.below _))))
      | (go_at_call 11; with_reducible exact Calls.grown (In_st (l := l) _ HPV.out (by omega) (hp7.below (Grown.below _))))
      | (go_at_call 13; with_reducible exact Calls.grown (ref_st (l := l) _ HPV.out (by omega) (hp7.below (Grown.below _))))
      | fail))
    refine wpQuiet_nil ?_
    intro _ hw'
    obtain ⟨x8, hw''⟩ := hw'
    subst hw''
    have hb8 := x8.below
    obtain ⟨w8, hw8⟩ : ∃ w8, w8 = x8.world := ⟨_, rfl⟩
    rw [← hw8] at hb8 ⊢
    clear hw8 t0 t1 t2 n0 n1 n2 CM CS hpp HPV
    have B8 := btr B7 hb8
    have hp8 := hp7.below hb8
    have hR8 := hR7.below hb8
    have hst8 := hst7.below hb8
    replace m0 := (later_cell hb8 hlt7).trans m0
    replace m1 := (later_cell hb8 hlt7).trans m1
    replace m2 := (later_cell hb8 hlt7).trans m2
    have hlt8 := Nat.lt_of_lt_of_le hlt7 hb8.size
    clear hb8 hp7 hR7 hst7 B7 hlt7
    go_wp2
    go_loopw [17] (fun s17 wr => ∃ j : Nat, j ≤ kb ∧ s17 = .int .i64 (j : Int) ∧ Below w8.heap.size w8 wr) (fun s17 _ => kb - (intOf s17).toNat)
    case atStart => exact ⟨0, by omega, rfl, Below.refl _ _⟩
    case round =>
      obtain ⟨wo, rfl⟩ : ∃ wo : World, wo = wr := ⟨_, rfl⟩
      obtain ⟨j, hj, rfl, hbo⟩ := hrel
      have o0 := (later_cell hbo hlt8).trans m0
      have o1 := (later_cell hbo hlt8).trans m1
      have hlto := Nat.lt_of_lt_of_le hlt8 hbo.size
      by_cases hjl : j < kb
      · go_wp2
        go_loopw [18] (fun s18 wr => ∃ i : Nat, i ≤ ka ∧ s18 = .int .i64 (i : Int) ∧ Below wo.heap.size wo wr) (fun s18 _ => ka - (intOf s18).toNat)
        case atStart => exact ⟨0, by omega, rfl, Below.refl _ _⟩
        case round =>
          obtain ⟨i, hi, rfl, hbi⟩ := hrel
          have hb8i := btr hbo hbi
          have i0 := (later_cell hbi hlto).trans o0
          by_cases hil : i < ka
          · have hstI := hst8.below hb8i
            have hpI := hp8.below hb8i
            have hRI := hR8.below hb8i
            have q1 := (later_cell hb8i hlt8).trans m1
            have q2 := (later_cell hb8i hlt8).trans m2
            have hltI := Nat.lt_of_lt_of_le hlt8 hb8i.size
            have t0 := fun q : Grown wr => q.cell hstI.c0 hstI.lt
            have t1 := fun q : Grown wr => q.cell hstI.c1 hstI.lt
            have t2 := fun q : Grown wr => q.cell hstI.c2 hstI.lt
            have n0 := fun q : Grown wr => q.cell i0 hltI
            have n1 := fun q : Grown wr => q.cell q1 hltI
            have n2 := fun q : Grown wr => q.cell q2 hltI
            obtain ⟨r, hr⟩ : ∃ r, F (16 * (i : Int) + 8) (16 * (j : Int) + 8) = r := ⟨_, rfl⟩
            have HI := Lib.hid ((HIN.out i j (by omega) (by omega)).trans hr)
            have hle : ∀ x ∈ xs, x ≤ 1 := fun x hx => by rw [← HXS.out] at hx; exact maskL_le hx
            have hget : xs[j * ka + i]? = some (bitB r) := by rw [← HXS.out, maskL_get F hil hjl, hr]
            have CH := Lib.hid fun W (hs : Sl W 1 (some ⟨g, 0, none⟩) N (bys xs)) => cover_Has_ok (some ⟨g, 0, none⟩) N N ka kb xs i j (j * ka + i) r W hs (by omega) (by omega) HN.out hle hil hjl rfl hget
            simp only [maskV] at CH
            have hrr : (r == r) = true := by simp
            have wr1 : wrap64 (16 * (i : Int)) = 16 * (i : Int) := IntWalk.wrap64_in _ (by omega)
            have wr2 : wrap64 (16 * (i : Int) + 8) = 16 * (i : Int) + 8 := IntWalk.wrap64_in _ (by omega)
            have wr3 : wrap64 (16 * (j : Int)) = 16 * (j : Int) := IntWalk.wrap64_in _ (by omega)
            have wr4 : wrap64 (16 * (j : Int) + 8) = 16 * (j : Int) + 8 := IntWalk.wrap64_in _ (by omega)
            clear hr hle hget q1 q2
            go_wp2_with fail
            refine wp_region_grown (by kernel_rfl) (by kernel_rfl) ?_
            repeat (go_big_quiet_step (first
              | (go_at_call 14; with_reducible exact Calls.grown (CH.out _ (hRI.below (Grown.below _))))
              | (go_at_call 11; with_reducible exact Calls.grown (In_st (l := l) _ HI.out (by omega) (hpI.below (Grown.below _))))
              | (go_at_call 13; with_reducible exact Calls.grown (ref_st (l := l) _ HI.out (by omega) (hpI.below (Grown.below _))))
              | fail))
            refine wpQuiet_nil ?_
            intro _ hw'
            obtain ⟨x9, hw''⟩ := hw'
            subst hw''
            go_wp2
            go_roundw
            case rel => exact ⟨i + 1, by omega, by go_num, btr hbi x9.below⟩
            case measure => simp [intOf]; omega
          · obtain rfl : i = ka := by omega
            go_wp2
            go_roundw
            case rel => exact ⟨j + 1, by omega, by go_num, btr hbo hbi⟩
            case measure => simp [intOf]; omega
      · obtain rfl : j = kb := by omega
        go_wp2
        go_ret
        exact ⟨rfl, btr B8 hbo⟩
end Go.Proofs.Ytbpgehaflbacmaa
