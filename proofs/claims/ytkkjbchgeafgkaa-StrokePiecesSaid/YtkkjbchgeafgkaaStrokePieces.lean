/- The walk of StrokePieces: it returns true. -/
import Derived.Test.YtkkjbchgeafgkaaStrokeWithin
import Derived.Test.YtkkjbchgeafgkaaStrokePiecesP
import Derived.Test.YtkkjbchgeafgkaaCts
namespace Go.Proofs.Ytkkjbchgeafgkaa
open Go.RowKit Go.BigFrame

theorem field_wide2 (a b c : Int) (w : World) : (Instr.field 27 (.agg #[.int .i64 a, .int .i64 b, .int .i64 c]) 0).run Try.prog w = .ok (.int .i64 a) w := by kernel_rfl
theorem inL_even {l : List Sg} {wd cp jn x y : Int} (hm : mayB l = true) (hb : ∀ t ∈ l, t.kind ≠ 3) (h0 : 0 ≤ wd) (h1 : wd < 130) (hs : Even ⟨wd, cp, jn⟩) (hx : -100 ≤ x ∧ x ≤ 379) (hy : -100 ≤ y ∧ y ≤ 379) :
    inL l ⟨wd, cp, jn⟩ x y = covL l ⟨wd, cp, jn⟩ x y := by
  rcases hs with ⟨h2, h3⟩ | ⟨h2, h3⟩ <;> exact inL_made hm hb (by simp only; omega) (by simp only at h2 ⊢; omega) (by simp only at h3 ⊢; omega) (by omega) (by omega)
theorem oneOf_in {e : Ed} (he : edOK e = true) {wd cp jn x y : Int} (h0 : 0 ≤ wd) (h1 : wd < 130) (hs : Even ⟨wd, cp, jn⟩) (hx : -100 ≤ x ∧ x ≤ 379) (hy : -100 ≤ y ∧ y ≤ 379) :
    inL (oneOf e) ⟨wd, cp, jn⟩ x y = covL (oneOf e) ⟨wd, cp, jn⟩ x y := by
  obtain ⟨a, b, _, _, c, d, _⟩ := edOK_iff.1 he
  exact inL_even (oneL_may (co_iff.2 a) (co_iff.2 b) (co_iff.2 c) (co_iff.2 d)) (oneL_nobow _ _ _ _) h0 h1 hs hx hy
theorem own_none (w : World) (t : TypeId) (s base g : Nat) (hb : base ≤ w.heap.size) (hg : w.heap.size = g) : (w.alloc (.cells #[] t)).ownsRow base t s (.slice (some ⟨g, 0, none⟩) 0 0) 0 [] :=
  own_new [] hg (by simp) (by omega) (by omega)
/-- A row that another row's growth leaves alone. -/
theorem Sl.kept {w w' : World} {s n b o : Nat} {xs : List Value} {r : Option Nat} (h : Sl w s (some ⟨b, o, none⟩) n xs) (hg : w.grownBy w' r) (hne : ∀ k, r = some k → b ≠ k) : Sl w' s (some ⟨b, o, none⟩) n xs :=
  ⟨h.1, fun hn => by
    obtain ⟨b1, off, e, hlt, hc⟩ := h.2 hn
    injection e with e; injection e with e1 e2
    subst e1; subst e2
    refine ⟨b, o, rfl, Nat.lt_of_lt_of_le hlt hg.size, fun j u hu => ?_⟩
    exact (World.cell?_of_block (a := ⟨b, o + j, none⟩) (hg.block b hlt (fun e => hne b e.symm rfl))).trans (hc j u hu)⟩
theorem ne_own {g b : Nat} (hb : b ≠ g) : ∀ k, Value.ownBlock (.slice (some ⟨g, 0, none⟩) 0 0) = some k → b ≠ k := fun k hk => by
  simp [Value.ownBlock] at hk; omega
/-- Some of the first contours, of the first edges cover the point. -/
def SomeC (cs : List Ct) (s : Sy) (x y : Int) (k : Nat) : Prop := ∃ (i : Nat) (h : i < cs.length), i < k ∧ CovC cs[i] s x y
def SomeE (es : List Ed) (s : Sy) (x y : Int) (k : Nat) : Prop := ∃ (i : Nat) (h : i < es.length), i < k ∧ covL (oneOf es[i]) s x y = true
theorem someC_succ {cs : List Ct} {s : Sy} {x y : Int} {k : Nat} (hk : k < cs.length) : SomeC cs s x y (k + 1) ↔ SomeC cs s x y k ∨ CovC cs[k] s x y := by
  constructor
  · rintro ⟨i, hi, hik, h⟩
    rcases Nat.lt_or_ge i k with h1 | h1
    · exact .inl ⟨i, hi, h1, h⟩
    · obtain rfl : i = k := by omega
      exact .inr h
  · rintro (⟨i, hi, hik, h⟩ | h)
    · exact ⟨i, hi, by omega, h⟩
    · exact ⟨k, hk, by omega, h⟩
theorem someE_succ {es : List Ed} {s : Sy} {x y : Int} {k : Nat} (hk : k < es.length) : SomeE es s x y (k + 1) ↔ SomeE es s x y k ∨ covL (oneOf es[k]) s x y = true := by
  constructor
  · rintro ⟨i, hi, hik, h⟩
    rcases Nat.lt_or_ge i k with h1 | h1
    · exact .inl ⟨i, hi, h1, h⟩
    · obtain rfl : i = k := by omega
      exact .inr h
  · rintro (⟨i, hi, hik, h⟩ | h)
    · exact ⟨i, hi, by omega, h⟩
    · exact ⟨k, hk, by omega, h⟩
theorem someE_all {c : Ct} (h : GoodC c) (hb : ∀ e ∈ c.es, e.bent = false) {s : Sy} (hs : Even s) {x y : Int} {es : List Ed} (he : allE c = es) : SomeE es s x y es.length ↔ CovC c s x y := by
  rw [cov_edges h hb hs, he]
  constructor
  · rintro ⟨i, hi, _, h⟩; exact ⟨_, List.getElem_mem hi, h⟩
  · rintro ⟨e, he, h⟩
    obtain ⟨i, hi, rfl⟩ := List.getElem_of_mem he
    exact ⟨i, hi, hi, h⟩
theorem someC_all {l : List Sg} {s : Sy} {x y : Int} {cs : List Ct} (hc : ctsL l = cs) : SomeC cs s x y cs.length ↔ covL l s x y = true := by
  rw [covL_iff, hc]
  constructor
  · rintro ⟨i, hi, _, h⟩; exact ⟨_, List.getElem_mem hi, h⟩
  · rintro ⟨e, he, h⟩
    obtain ⟨i, hi, rfl⟩ := List.getElem_of_mem he
    exact ⟨i, hi, hi, h⟩

set_option maxRecDepth 100000 in
set_option maxHeartbeats 4000000 in
theorem StrokePieces_any (A : Option Addr) (n c : Nat) (v : Int) (round : Bool) (x y : Int) (w : World) (h : InA w A n) (hnc : n ≤ c) (hcm : c ≤ 9223372036854775807) :
    Calls Try.prog 3 #[.slice A n c, .int .i64 v, .bool round, .int .i64 x, .int .i64 y] w fun e w' => e = .returned (.bool true) ∧ Below w.heap.size w w' := by
  go_enter Try.func3, Try.ntmps3
  go_wp2_with fail
  refine (known33_any _).mono ?_; rintro e w1 ⟨rfl, hb1⟩
  go_wp2_with fail
  refine (Made_any A n c false w1 (h.below hb1) hnc hcm).mono ?_; rintro e w2 ⟨l, A2, c2, rfl, hown2, hmd2, hb2⟩
  have B2 : Below w.heap.size w w2 := btr hb1 hb2
  have hp2 := own_sl hown2
  clear hb1 hb2 hown2
  have hlm := hmd2.may
  have hlk := hmd2.2.2.2 rfl
  have hl12 := hmd2.2.1
  obtain ⟨ll, hll⟩ : ∃ x, l.length = x := ⟨_, rfl⟩
  obtain ⟨cs, hcs⟩ : ∃ cs, ctsL l = cs := ⟨_, rfl⟩
  obtain ⟨nc, hncs⟩ : ∃ x, cs.length = x := ⟨_, rfl⟩
  have hnc3 : nc ≤ 12 := by have := cts_len l; rw [hcs, hncs] at this; omega
  have hes : ∀ c ∈ cs, c.es.length ≤ 12 ∧ GoodC c ∧ ∀ e ∈ c.es, e.bent = false := fun c hc => by
    rw [← hcs] at hc
    have := cts_es l c hc
    exact ⟨by omega, ctsL_good l c hc, ctsL_straight hlk c hc⟩
  rw [hll] at hl12 hp2 ⊢
  have HLM := Lib.hid hlm
  have HLK := Lib.hid hlk
  have HCS := Lib.hid hcs
  have HNC := Lib.hid hncs
  have HES := Lib.hid hes
  clear hmd2 hlm hlk hll hcs hncs hes
  go_wp2_with fail
  refine (Style_any v _).mono ?_; rintro e w4 ⟨rfl, hb4⟩
  have B4 := btr B2 hb4
  have hp4 := hp2.below hb4
  have hso := styI_ok v
  clear hb4 hp2 B2
  obtain ⟨s, hs⟩ : ∃ s, s = styI v := ⟨_, rfl⟩
  rw [← hs] at hso ⊢
  clear hs
  obtain ⟨wd, cp0, jn0⟩ := s
  simp only at hso
  simp only [syc]
  obtain ⟨v1, v2, -, -, -, -⟩ := hso
  have hfd := fun W => field_wide2 wd cp0 jn0 W
  go_upto_if 30 with (fail)
  go_cut [12] (fun s12 wx => ∃ cp jn : Int, s12 = .pointer (some ⟨w4.heap.size, 0, none⟩) ∧ StIn wx w4.heap.size wd cp jn ∧ Hid (Even ⟨wd, cp, jn⟩) ∧ Below w4.heap.size w4 wx)
  case first =>
    cases round
    · go_wp2
      go_meet
      exact ⟨0, 0, rfl, StIn.new _ _ _, Lib.hid (.inr ⟨rfl, rfl⟩), bal (Below.refl _ _) _⟩
    · go_wp2
      go_meet
      exact ⟨1, 1, rfl, StIn.new _ _ _, Lib.hid (.inl ⟨rfl, rfl⟩), bal (Below.refl _ _) _⟩
  case rest =>
    obtain ⟨cp, jn, rfl, hst, hev, hbc⟩ := hcut
    have B5 := btr B4 hbc
    have hp5 := hp4.below hbc
    clear hbc hp4 hfd
    go_wp2_with fail
    refine (Contours_any _ _ _ l cs _ (by omega) hp5 HCS.out).mono ?_; rintro e w6 ⟨A6, c6, rfl, hct, hb6⟩
    have B6 := btr B5 hb6
    have hp6 := hp5.below hb6
    have ht6 := hst.below hb6
    rw [HNC.out] at hct ⊢
    clear hb6 hp5 hst B5
    have hpx := pntI_ok x
    have hpy := pntI_ok y
    have HPX := Lib.hid hpx
    have HPY := Lib.hid hpy
    clear hpx hpy
    go_wp2
    go_loopw [13, 15] (fun s13 s15 wr => ∃ (k : Nat) (b : Bool), k ≤ nc ∧ s13 = .bool b ∧ s15 = .int .i64 (k : Int) ∧ Below w6.heap.size w6 wr ∧ Hid (b = true ↔ SomeC cs ⟨wd, cp, jn⟩ (pntI x) (pntI y) k)) (fun _ s15 _ => nc - (intOf s15).toNat)
    case atStart => exact ⟨0, false, by omega, rfl, rfl, Below.refl _ _, Lib.hid (by unfold SomeC; simp)⟩
    case round =>
      obtain ⟨wo, rfl⟩ : ∃ wo : World, wo = wr := ⟨_, rfl⟩
      obtain ⟨k, b, hk, rfl, rfl, hbr, hb⟩ := hrel
      by_cases hlt : k < nc
      · have hkl : k < cs.length := by rw [HNC.out]; exact hlt
        obtain ⟨bA, oA, Ae, ce, rfl, hbA, d0, d1, d2, d3, hsE⟩ := hct.get k hlt hkl
        obtain ⟨ct, hctk⟩ : ∃ ct, ct = cs[k] := ⟨_, rfl⟩
        obtain ⟨hu12, hgd, hbt⟩ := HES.out _ (List.getElem_mem hkl)
        have hsu := someC_succ (s := ⟨wd, cp, jn⟩) (x := pntI x) (y := pntI y) hkl
        rw [← hctk] at d0 d1 d2 d3 hsE hu12 hgd hbt hsu
        obtain ⟨u, hu⟩ : ∃ u, ct.es.length = u := ⟨_, rfl⟩
        rw [hu] at d2 hsE hu12
        obtain ⟨es, hes⟩ : ∃ es, allE ct = es := ⟨_, rfl⟩
        have hall := someE_all hgd hbt (s := ⟨wd, cp, jn⟩) (x := pntI x) (y := pntI y) hev.out hes
        have hok : ∀ e ∈ es, edOK e = true := fun e he => by rw [← hes] at he; exact (allE_ok hgd hbt e he).1
        have HU := Lib.hid hu
        have HESL := Lib.hid hes
        have HALL := Lib.hid hall
        have HOK := Lib.hid hok
        have HSU := Lib.hid hsu
        clear hctk hgd hbt hsu hu hes hall hok hkl
        have g0 := (later_cell hbr hbA).trans d0
        have g1 := (later_cell hbr hbA).trans d1
        have g2 := (later_cell hbr hbA).trans d2
        have g3 := (later_cell hbr hbA).trans d3
        have hbo : bA < wo.heap.size := Nat.lt_of_lt_of_le hbA hbr.size
        go_wp2
        go_quiet (fail)
        go_wp2
        go_loopw [17, 18, 19] (fun px py s19 wr => ∃ z : Nat, z ≤ u ∧ px = .int .i64 (endX ct.x (ct.es.take z)) ∧ py = .int .i64 (endY ct.y (ct.es.take z)) ∧ s19 = .int .i64 (z : Int) ∧ Below w6.heap.size w6 wr) (fun _ _ s19 _ => u - (intOf s19).toNat)
        case atStart => exact ⟨0, by omega, rfl, rfl, rfl, bdrewN hbr _⟩
        case round =>
          obtain ⟨z, hz, rfl, rfl, rfl, hbi⟩ := hrel
          by_cases hzu : z < u
          · have hzl : z < ct.es.length := by rw [HU.out]; exact hzu
            obtain ⟨be, oe, rfl, hbe, e0, e1, e2, e3, e4, e5, e6⟩ := (hsE.below hbi).ed z hzu hzl
            have HX := Lib.hid (endX_take ct.x ct.es z hzl)
            have HY := Lib.hid (endY_take ct.y ct.es z hzl)
            clear e0 e1 e2 e3 e4
            go_wp2
            go_quiet (fail)
            go_wp2
            go_roundw
            case rel => exact ⟨z + 1, by omega, by rw [HX.out], by rw [HY.out], by go_num, bdrewN hbi _⟩
            case measure => simp [intOf]; omega
          · obtain rfl : z = u := by omega
            have hte : ct.es.take z = ct.es := List.take_of_length_le (by rw [HU.out]; omega)
            have HTE := Lib.hid hte
            rw [hte]
            clear hte hzu
            have i0 := (later_cell hbi hbA).trans d0
            have i1 := (later_cell hbi hbA).trans d1
            have i3 := (later_cell hbi hbA).trans d3
            have hbi2 : bA < wr.heap.size := Nat.lt_of_lt_of_le hbA hbi.size
            have hsEi := hsE.below hbi
            go_upto_if 76 with (fail)
            go_cut [16] (fun s16 wx => ∃ (A5 : Option Addr) (m c5 : Nat), s16 = .slice A5 m c5 ∧ Sl wx 7 A5 m (eds es) ∧ es.length = m ∧ m ≤ 13 ∧ Below w6.heap.size w6 wx)
            case first =>
              rcases Bool.eq_false_or_eq_true ct.shut with hsh | hsh
              · rw [hsh] at i3 ⊢
                have hea : eds es = eds ct.es ++ edc (backE ct) := by rw [← HESL.out]; unfold allE; rw [hsh, if_pos rfl, eds_app, eds_one]
                have hel : es.length = z + 1 := by rw [← HESL.out]; unfold allE; rw [hsh, if_pos rfl, List.length_append, HU.out]; rfl
                have hbk : edc (backE ct) = [.int .i64 (endX ct.x ct.es), .int .i64 (endY ct.y ct.es), .bool false, .int .i64 0, .int .i64 0, .int .i64 ct.x, .int .i64 ct.y] := rfl
                have HEA := Lib.hid hea
                have HEL := Lib.hid hel
                have HBK := Lib.hid hbk
                clear hea hel hbk hsh
                generalize endX ct.x ct.es = px at *
                generalize endY ct.y ct.es = py at *
                have hS0 := And.intro i0 i1
                go_wp2
                have O1 : ((wr.alloc (.cells #[] 35)).drew).ownsRow wr.heap.size 35 7 (.slice (some ⟨wr.heap.size, 0, none⟩) 0 0) 0 [] := own_below (own_none wr _ _ _ _ (Nat.le_refl _) rfl) (bdrew (Below.refl _ _))
                have O2 : (((wr.alloc (.cells #[] 35)).alloc (.cells #[.int .i64 px, .int .i64 py, .bool false, .int .i64 0, .int .i64 0, .int .i64 ct.x, .int .i64 ct.y] 35)).drew).ownsRow wr.heap.size 35 7 (.slice (some ⟨wr.heap.size, 0, none⟩) 0 0) 0 [] := own_below (own_none wr _ _ _ _ (Nat.le_refl _) rfl) (bdrew (bal (Below.refl _ _) _))
                have O3 : (((wr.alloc (.cells #[.int .i64 px, .int .i64 py, .bool false, .int .i64 0, .int .i64 0, .int .i64 ct.x, .int .i64 ct.y] 35)).alloc (.cells #[] 35)).drew).ownsRow wr.heap.size 35 7 (.slice (some ⟨wr.heap.size + 1, 0, none⟩) 0 0) 0 [] := own_below (own_none (wr.alloc (.cells #[.int .i64 px, .int .i64 py, .bool false, .int .i64 0, .int .i64 0, .int .i64 ct.x, .int .i64 ct.y] 35)) _ _ _ _ (by simp) (by simp)) (bdrew (Below.refl _ _))
                have B1 : Below wr.heap.size wr ((wr.alloc (.cells #[] 35)).drew) := bdrew (bal (Below.refl _ _) _)
                have B2' : Below wr.heap.size wr (((wr.alloc (.cells #[] 35)).alloc (.cells #[.int .i64 px, .int .i64 py, .bool false, .int .i64 0, .int .i64 0, .int .i64 ct.x, .int .i64 ct.y] 35)).drew) := bdrew (bal (bal (Below.refl _ _) _) _)
                have B3' : Below wr.heap.size wr (((wr.alloc (.cells #[.int .i64 px, .int .i64 py, .bool false, .int .i64 0, .int .i64 0, .int .i64 ct.x, .int .i64 ct.y] 35)).alloc (.cells #[] 35)).drew) := bdrew (bal (bal (Below.refl _ _) _) _)
                have L2 : Sl (((wr.alloc (.cells #[] 35)).alloc (.cells #[.int .i64 px, .int .i64 py, .bool false, .int .i64 0, .int .i64 0, .int .i64 ct.x, .int .i64 ct.y] 35)).drew) 7 (some ⟨wr.heap.size + 1, 0, none⟩) 1 (edc ⟨px, py, false, 0, 0, ct.x, ct.y⟩) := (sl_newN (w := wr.alloc (.cells #[] 35)) (edc ⟨px, py, false, 0, 0, ct.x, ct.y⟩) (by simp) rfl).drew
                have L3 : Sl (((wr.alloc (.cells #[.int .i64 px, .int .i64 py, .bool false, .int .i64 0, .int .i64 0, .int .i64 ct.x, .int .i64 ct.y] 35)).alloc (.cells #[] 35)).drew) 7 (some ⟨wr.heap.size, 0, none⟩) 1 (edc ⟨px, py, false, 0, 0, ct.x, ct.y⟩) := (sl_newN (w := wr) (t := 35) (edc ⟨px, py, false, 0, 0, ct.x, ct.y⟩) rfl rfl).below (bdrew (bal (Below.refl _ _) _))
                have S1 := hsEi.below B1
                have S2 := hsEi.below B2'
                have S3 := hsEi.below B3'
                go_region_held3 (fun w' => w'.cell? ⟨bA, oA + k * 4, none⟩ = some (.int .i64 ct.x) ∧ w'.cell? ⟨bA, oA + k * 4 + 1, none⟩ = some (.int .i64 ct.y))
                  (first | with_reducible exact hs6 | with_reducible exact hs5 | go_keep)
                  (first
                    | (refine step_app (by rfl) _ _ 31 (by rfl) wr.heap.size edT2 (by rfl) hown8 (edc ⟨px, py, false, 0, 0, ct.x, ct.y⟩) (by rfl) hn8 (oneCell_edc _) (by omega) hb8.size ?_; intro A9 c9 w9 hown9 hg9 hat9; have hb9 := grown_below hb8 hg9 hown8; have hs6 : w9.cell? ⟨bA, oA + k * 4, none⟩ = some (.int .i64 ct.x) ∧ w9.cell? ⟨bA, oA + k * 4 + 1, none⟩ = some (.int .i64 ct.y) := ⟨(later_cell hb9 hbi2).trans i0, (later_cell hb9 hbi2).trans i1⟩; clear hg9 hat9)
                    | (refine step_app (by rfl) _ _ 31 (by rfl) wr.heap.size edT2 (by rfl) hown8r (edc ⟨px, py, false, 0, 0, ct.x, ct.y⟩) (by rfl) hn8 (oneCell_edc _) (by omega) hb8.size ?_; intro A9 c9 w9 hown9 hg9 hat9; rw [Nat.zero_add] at hown9; have hb9 := grown_below hb8 hg9 hown8r; have hs6 : w9.cell? ⟨bA, oA + k * 4, none⟩ = some (.int .i64 ct.x) ∧ w9.cell? ⟨bA, oA + k * 4 + 1, none⟩ = some (.int .i64 ct.y) := ⟨(later_cell hb9 hbi2).trans i0, (later_cell hb9 hbi2).trans i1⟩; clear hg9 hat9)
                    | (refine step_app (by rfl) _ _ 31 (by rfl) wr.heap.size edT2 (by rfl) (own_below hown8 (bal (Below.refl _ _) _)) (edc ⟨px, py, false, 0, 0, ct.x, ct.y⟩) (by rfl) (sl_newN (w := w8) (t := 35) (edc ⟨px, py, false, 0, 0, ct.x, ct.y⟩) rfl rfl) (oneCell_edc _) (by omega) (bal hb8 _).size ?_; intro A9 c9 w9 hown9 hg9 hat9; have hb9 := grown_below (bal hb8 _) hg9 (own_below hown8 (bal (Below.refl _ _) _)); have hs6 : w9.cell? ⟨bA, oA + k * 4, none⟩ = some (.int .i64 ct.x) ∧ w9.cell? ⟨bA, oA + k * 4 + 1, none⟩ = some (.int .i64 ct.y) := ⟨(later_cell hb9 hbi2).trans i0, (later_cell hb9 hbi2).trans i1⟩; clear hg9 hat9)
                    | (refine step_app (by rfl) _ _ 31 (by rfl) wr.heap.size edT2 (by rfl) O1 (eds ct.es) (by rfl) S1 (oneCell_eds _) (by omega) B1.size ?_; intro A8 c8 w8 hown8 hg8 hat8; rw [List.nil_append] at hown8; have hown8r := hown8; rw [Nat.zero_add] at hown8; have hb8 := grown_below B1 hg8 O1; have hs5 : w8.cell? ⟨bA, oA + k * 4, none⟩ = some (.int .i64 ct.x) ∧ w8.cell? ⟨bA, oA + k * 4 + 1, none⟩ = some (.int .i64 ct.y) := ⟨(later_cell hb8 hbi2).trans i0, (later_cell hb8 hbi2).trans i1⟩; clear hg8 hat8)
                    | (refine step_app (by rfl) _ _ 31 (by rfl) wr.heap.size edT2 (by rfl) O2 (eds ct.es) (by rfl) S2 (oneCell_eds _) (by omega) B2'.size ?_; intro A8 c8 w8 hown8 hg8 hat8; rw [List.nil_append] at hown8; have hown8r := hown8; rw [Nat.zero_add] at hown8; have hb8 := grown_below B2' hg8 O2; have hs5 : w8.cell? ⟨bA, oA + k * 4, none⟩ = some (.int .i64 ct.x) ∧ w8.cell? ⟨bA, oA + k * 4 + 1, none⟩ = some (.int .i64 ct.y) := ⟨(later_cell hb8 hbi2).trans i0, (later_cell hb8 hbi2).trans i1⟩; have hn8 := L2.kept hg8 (ne_own (by omega)); clear hg8 hat8)
                    | (refine step_app (by rfl) _ _ 31 (by rfl) wr.heap.size edT2 (by rfl) O3 (eds ct.es) (by rfl) S3 (oneCell_eds _) (by omega) B3'.size ?_; intro A8 c8 w8 hown8 hg8 hat8; rw [List.nil_append] at hown8; have hown8r := hown8; rw [Nat.zero_add] at hown8; have hb8 := grown_below B3' hg8 O3; have hs5 : w8.cell? ⟨bA, oA + k * 4, none⟩ = some (.int .i64 ct.x) ∧ w8.cell? ⟨bA, oA + k * 4 + 1, none⟩ = some (.int .i64 ct.y) := ⟨(later_cell hb8 hbi2).trans i0, (later_cell hb8 hbi2).trans i1⟩; have hn8 := L3.kept hg8 (ne_own (by omega)); clear hg8 hat8)
                    | fail)
                all_goals
                  clear O1 O2 O3 B1 B2' B3' L2 L3 S1 S2 S3
                  go_wp2
                  go_meet
                  exact ⟨A9, z + 1, c9, rfl, by rw [HEA.out, HBK.out]; exact own_sl hown9, HEL.out, by omega, btr hbi hb9⟩
              · rw [hsh] at i3 ⊢
                have hea : es = ct.es := by rw [← HESL.out]; unfold allE; rw [hsh]; simp
                have HEA := Lib.hid hea
                clear hsh hea
                go_wp2
                go_meet
                exact ⟨Ae, z, ce, rfl, by rw [HEA.out]; exact hsEi, by rw [HEA.out]; exact HU.out, by omega, hbi⟩
            case rest =>
              obtain ⟨A5, m, c5, rfl, hsA, hm, hm13, hbw⟩ := hcut
              have HM := Lib.hid hm
              clear hm
              go_wp2
              go_loopw [13, 20] (fun s13 s20 wr => ∃ (z : Nat) (b' : Bool), z ≤ m ∧ s13 = .bool b' ∧ s20 = .int .i64 (z : Int) ∧ Below wc.heap.size wc wr ∧ Hid (b' = true ↔ b = true ∨ SomeE es ⟨wd, cp, jn⟩ (pntI x) (pntI y) z)) (fun _ s20 _ => m - (intOf s20).toNat)
              case atStart => exact ⟨0, b, by omega, rfl, rfl, Below.refl _ _, Lib.hid (by unfold SomeE; simp)⟩
              case round =>
                obtain ⟨z, b', hz, rfl, rfl, hbi3, hb'⟩ := hrel
                by_cases hzm : z < m
                · have hzl : z < es.length := by rw [HM.out]; exact hzm
                  obtain ⟨be, oe, rfl, hbe, e0, e1, e2, e3, e4, e5, e6⟩ := (hsA.below hbi3).ed z hzm hzl
                  obtain ⟨ed, hed⟩ : ∃ ed, ed = es[z] := ⟨_, rfl⟩
                  have hoe := HOK.out _ (List.getElem_mem hzl)
                  have hsz := someE_succ (s := ⟨wd, cp, jn⟩) (x := pntI x) (y := pntI y) hzl
                  rw [← hed] at e0 e1 e5 e6 hoe hsz
                  have hin := oneOf_in hoe v1 v2 hev.out HPX.out HPY.out
                  obtain ⟨r, hr⟩ : ∃ r, inL (oneOf ed) ⟨wd, cp, jn⟩ (pntI x) (pntI y) = r := ⟨_, rfl⟩
                  rw [← hin, hr] at hsz
                  have HR := Lib.hid hr
                  have HSZ := Lib.hid hsz
                  have hX6 := btr hbw hbi3
                  have HSL : Sl (wr.alloc (.cells (sgs (oneOf ed)).toArray 37)) 5 (some ⟨wr.heap.size, 0, none⟩) 2 (sgs (oneOf ed)) := sl_newN (sgs (oneOf ed)) rfl rfl
                  have HSL' : Sl (wr.alloc (.cells #[.int .i64 1, .int .i64 ed.x0, .int .i64 ed.y0, .int .i64 0, .int .i64 0, .int .i64 2, .int .i64 ed.x1, .int .i64 ed.y1, .int .i64 0, .int .i64 0] 37)).drew 5 (some ⟨wr.heap.size, 0, none⟩) 2 (sgs (oneOf ed)) := HSL.below (bdrew (Below.refl _ _))
                  clear hed hoe hsz hin hr e2 e3 e4 HSL
                  go_wp2
                  go_region
                  go_wp2
                  obtain ⟨w7, hw7⟩ : ∃ w7 : World, w7 = (wr.alloc (.cells #[.int .i64 1, .int .i64 ed.x0, .int .i64 ed.y0, .int .i64 0, .int .i64 0, .int .i64 2, .int .i64 ed.x1, .int .i64 ed.y1, .int .i64 0, .int .i64 0] 37)).drew := ⟨_, rfl⟩
                  rw [← hw7] at HSL' ⊢
                  have hb37 : Below wr.heap.size wr w7 := by rw [hw7]; exact bdrew (bal (Below.refl _ _) _)
                  have hX7 := btr hX6 hb37
                  have hbi7 := btr hbi3 hb37
                  have hstw := ht6.below hX7
                  have s0 := fun g : Grown w7 => g.cell hstw.c0 hstw.lt
                  have s1 := fun g : Grown w7 => g.cell hstw.c1 hstw.lt
                  have s2 := fun g : Grown w7 => g.cell hstw.c2 hstw.lt
                  have hE := fun g : Grown w7 => HSL'.below g.below
                  clear hw7 hb37 hX6 hbi3 e0 e1 e5 e6
                  cases b'
                  · refine wp_region_grown (by kernel_rfl) (by kernel_rfl) ?_
                    repeat (go_big_quiet_step (first
                      | (go_at_call 10; with_reducible exact Calls.grown_same (point_any _ _))
                      | (go_at_call 9; with_reducible exact Calls.grown (In_st (l := oneOf ed) _ HR.out (by omega) (hE _)))))
                    refine wpQuiet_nil ?_
                    intro _ hw'
                    obtain ⟨zq, hw''⟩ := hw'
                    subst hw''
                    go_wp2
                    go_roundw
                    case rel => exact ⟨z + 1, r, by omega, rfl, by go_num, btr hbi7 zq.below, Lib.hid (by rw [HSZ.out, ← or_assoc, ← hb'.out]; simp)⟩
                    case measure => simp [intOf]; omega
                  · refine wp_region_grown (by kernel_rfl) (by kernel_rfl) ?_
                    repeat (go_big_quiet_step (fail))
                    refine wpQuiet_nil ?_
                    intro _ hw'
                    obtain ⟨zq, hw''⟩ := hw'
                    subst hw''
                    go_wp2
                    go_roundw
                    case rel => exact ⟨z + 1, true, by omega, rfl, by go_num, btr hbi7 zq.below, Lib.hid (by rw [HSZ.out, ← or_assoc, ← hb'.out]; simp)⟩
                    case measure => simp [intOf]; omega
                · obtain rfl : z = m := by omega
                  go_wp2
                  go_roundw
                  case rel =>
                    refine ⟨k + 1, b', by omega, rfl, by go_num, btr hbw hbi3, Lib.hid ?_⟩
                    rw [hb'.out, HSU.out, hb.out, ← HALL.out, HM.out]
                  case measure => simp [intOf]; omega
      · obtain rfl : k = nc := by omega
        have hfin : inL l ⟨wd, cp, jn⟩ (pntI x) (pntI y) = b := by
          rw [inL_even HLM.out HLK.out v1 v2 hev.out HPX.out HPY.out, Bool.eq_iff_iff, hb.out, ← someC_all HCS.out, HNC.out]
        have HF := Lib.hid hfin
        have hstw := ht6.below hbr
        have s0 := fun g : Grown wo => g.cell hstw.c0 hstw.lt
        have s1 := fun g : Grown wo => g.cell hstw.c1 hstw.lt
        have s2 := fun g : Grown wo => g.cell hstw.c2 hstw.lt
        have hE := fun g : Grown wo => hp6.below (btr hbr g.below)
        clear hfin hb
        go_wp2_with fail
        refine wp_region_grown (by kernel_rfl) (by kernel_rfl) ?_
        repeat (go_big_quiet_step (first
          | (go_at_call 10; with_reducible exact Calls.grown_same (point_any _ _))
          | (go_at_call 9; with_reducible exact Calls.grown (In_st (l := l) _ HF.out (by omega) (hE _)))))
        refine wpQuiet_nil ?_
        intro _ hw'
        obtain ⟨zq, hw''⟩ := hw'
        subst hw''
        go_wp2
        go_ret
        exact ⟨ret_b (by simp), btr B6 (btr hbr zq.below)⟩
end Go.Proofs.Ytkkjbchgeafgkaa
