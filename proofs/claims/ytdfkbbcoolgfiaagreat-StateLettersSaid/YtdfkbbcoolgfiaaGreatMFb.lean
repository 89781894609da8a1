/- tympanref40: fair, Wide, Path. -/
import Derived.Test.YtdfkbbcoolgfiaaGreatMFa
import Derived.Test.YtdfkbbcoolgfiaaGreatFRefM
import Derived.Test.YtdfkbbcoolgfiaaGreatMF3
import Derived.Test.YtdfkbbcoolgfiaaGreatMG6
import Derived.Test.YtdfkbbcoolgfiaaGreatAllP
namespace Go.Proofs.YtdfkbbcoolgfiaaGreat
open Go.RowKit Go.Maps Go.BigFrame

/-- Two may come up: each is gone through. -/
theorem ord_two {P : Program} {md : Region.Mode} {ops : Array Oper} {S : World → Prop} {Q : Exit → Act → World → Prop} {c : List Nat} {fuel : Nat} {listed : Array Bool} {a : Act} {w : World} (k l : Nat) {o p : Oper} (h0 : ops[k]? = some o) (h1 : ops[l]? = some p)
    (hr : Region.ready md ops listed = [k, l]) (hkc : c.contains k = false) (hlc : c.contains l = false)
    (h : ∀ K : Act → World → Prop, Hid (∀ a' w', S w' → wpAnyN P md ops Q S c fuel (listed.setIfInBounds k true) a' w' → K a' w') → if Region.wanted o (yielded ops a.tmps) = true then Oper.wp P o a w K Q else K (a.put o.dst undef) w)
    (h' : ∀ K : Act → World → Prop, Hid (∀ a' w', S w' → wpAnyN P md ops Q S c fuel (listed.setIfInBounds l true) a' w' → K a' w') → if Region.wanted p (yielded ops a.tmps) = true then Oper.wp P p a w K Q else K (a.put p.dst undef) w) :
    wpAnyN P md ops Q S c (fuel + 1) listed a w := by
  refine ⟨fun he => (by rw [hr] at he; cases he), fun i hi => ?_⟩
  rw [hr, List.mem_cons, List.mem_singleton] at hi
  rcases hi with rfl | rfl
  · rw [if_pos hkc]
    unfold wpOp
    simp only [h0]
    have h3 := h (fun a' w' => S w' ∧ wpAnyN P md ops Q S c fuel (listed.setIfInBounds i true) a' w') (Lib.hid fun _ _ h1 h2 => And.intro h1 h2)
    by_cases hw : Region.wanted o (yielded ops a.tmps) = true
    · rw [if_pos hw] at h3 ⊢; exact .inl h3
    · rw [if_neg hw] at h3 ⊢; exact h3
  · rw [if_pos hlc]
    unfold wpOp
    simp only [h1]
    have h3 := h' (fun a' w' => S w' ∧ wpAnyN P md ops Q S c fuel (listed.setIfInBounds i true) a' w') (Lib.hid fun _ _ h1 h2 => And.intro h1 h2)
    by_cases hw : Region.wanted p (yielded ops a.tmps) = true
    · rw [if_pos hw] at h3 ⊢; exact .inl h3
    · rw [if_neg hw] at h3 ⊢; exact h3
theorem rRun_is {p : ByteArray} {L : List Sg} {wd er : Int} {n : Nat} (w : World) (hp : p.size ≤ 1000000) (hr : RunG (bl p) = ((L, wd), er)) (hn : L.length = n) :
    Calls Tryz.prog 145 #[.string p] w fun e w' => ∃ (A : Option Addr) (c : Nat), e = .returned (.tuple #[.slice A n c, .int .i64 wd, .int .i64 er]) ∧ Sl w' 5 A n (sgs L) ∧ Below w.heap.size w w' := by
  refine (ref_Run_any p w hp).mono ?_; rintro e w' ⟨L', wd', er', A, n', c, rfl, hr', hn', _, hs, hb⟩
  rw [hr] at hr'
  simp only [Prod.mk.injEq] at hr'
  obtain ⟨⟨rfl, rfl⟩, rfl⟩ := hr'
  rw [hn] at hn'
  subst hn'
  exact ⟨A, c, rfl, hs, hb⟩
theorem letter_sz {F : Fo} {c : Nat} {x : Le} (h : letterF F c = some x) : x.prog.size ≤ 1000000 := by
  unfold letterF at h
  split at h
  · rename_i ho
    have hb : bookB F.lets = true := by rw [openB_eq] at ho; simp only [Bool.and_eq_true] at ho; exact ho.2
    have := book_prog hb (List.mem_of_find?_eq_some h)
    omega
  · cases h
set_option maxRecDepth 100000 in
set_option maxHeartbeats 2000000 in
theorem rFair40_any (F : Fo) (C : List Value) (m : Mt) (x y : Int) (w : World) (h : FoAt w F C) :
    Calls Tryz.prog 102 #[.agg C.toArray, mtv m, .int .i64 x, .int .i64 y] w fun e w' => e = .returned (.bool (fairF F m x y)) ∧ Below w.heap.size w w' := by
  have HO := Lib.hid fun W (hb : Below w.heap.size w W) => rFontMay_any F C W (h.below hb)
  have HMy := Lib.hid fun W => rMay_any m W
  have HX := Lib.hid fun W => rIsFix_any x W
  have HY := Lib.hid fun W => rIsFix_any y W
  obtain ⟨R, hR⟩ : ∃ R, fairF F m x y = R := ⟨_, rfl⟩
  have HR2 : Hid (R = (openB F && mtB m && fixB x && fixB y)) := Lib.hid (by rw [← hR]; rfl)
  rw [hR]
  clear hR
  obtain ⟨ok, A, B, E, ca, cb, ce, rfl, h1, h2, h3⟩ := h
  rw [vm m]
  obtain ⟨w0, hw0⟩ : ∃ w0 : World, w0 = (w.alloc (.cells (foC F.m (.slice A F.names.length ca) (.slice B F.lets.length cb) (.slice E F.kern.length ce)).toArray 56)).alloc (.cells (mtC m).toArray 23) := ⟨_, rfl⟩
  have hB0 : Below w.heap.size w w0 := by rw [hw0]; exact bal (bal (Below.refl _ _) _) _
  have hA : BC w0 w.heap.size (foC F.m (.slice A F.names.length ca) (.slice B F.lets.length cb) (.slice E F.kern.length ce)) := by rw [hw0]; exact (BC.new _ 56 rfl).below (bal (Below.refl _ _) _)
  have hM : BC w0 (w.heap.size + 1) (mtC m) := by rw [hw0]; exact BC.new (w := w.alloc _) (mtC m) 23 (by simp)
  simp only [vm] at HMy
  clear h1 h2 h3 ok
  go_enter Tryz.func102, Tryz.ntmps102
  go_upto_region 1 with (fail)
  rw [← hw0]
  clear hw0
  go_wp2_with (first
    | (refine wpList_load_rec rfl _ _ rfl w.heap.size rfl _ 9 foT hA rfl ?_)
    | fail)
  refine (HO.out _ hB0).mono ?_; rintro e w1 ⟨rfl, hb1⟩
  have B2 := btr hB0 hb1
  have hM1 := hM.below hb1
  clear hA hM hb1 HO hB0
  cases hf : openB F
  · have HE := Lib.hid (show R = false by rw [HR2.out, hf]; simp)
    clear HR2
    go_wp2
    go_ret
    exact ⟨by rw [HE.out]; rfl, B2⟩
  go_wp2_with (first
    | (refine wpList_load_rec_g2 (by kernel_rfl) _ _ rfl (w.heap.size + 1) rfl _ 6 matT2 hM1 rfl ?_)
    | fail)
  refine (HMy.out _).mono ?_; rintro e w2 ⟨rfl, b2⟩
  replace B2 := btr B2 b2
  clear hM1 b2
  cases hm : mtB m
  · have HE := Lib.hid (show R = false by rw [HR2.out, hm]; simp)
    clear HR2
    go_wp2
    go_ret
    exact ⟨by rw [HE.out]; rfl, B2⟩
  go_wp2_with fail
  refine (HX.out _).mono ?_; rintro e w' ⟨rfl, rfl⟩
  cases hfx : fixB x
  · have HE := Lib.hid (show R = false by rw [HR2.out, hfx]; simp)
    clear HR2
    go_wp2
    go_ret
    exact ⟨by rw [HE.out]; rfl, B2⟩
  go_wp2_with fail
  refine (HY.out _).mono ?_; rintro e w' ⟨rfl, rfl⟩
  have HE := Lib.hid (show R = fixB y by rw [HR2.out, hf, hm, hfx]; rfl)
  go_wp2_with fail
  go_ret
  exact ⟨by rw [HE.out]; rfl, B2⟩
set_option maxRecDepth 100000 in
set_option maxHeartbeats 2000000 in
theorem rWide_any (F : Fo) (C : List Value) (c : Nat) (w : World) (hc : c < 256) (h : FoAt w F C) :
    Calls Tryz.prog 105 #[.agg C.toArray, .int .u8 c] w fun e w' => e = .returned (.tuple #[.int .i64 (wideF F c).1, .int .i64 (wideF F c).2]) ∧ Below w.heap.size w w' := by
  have HO := Lib.hid fun W (hb : Below w.heap.size w W) => rFontMay_any F C W (h.below hb)
  have HL := Lib.hid fun W (hb : Below w.heap.size w W) => rLetter_any F C c W hc (h.below hb)
  have HSZ := Lib.hid fun x (hx : letterF F c = some x) => letter_sz hx
  obtain ⟨⟨wd, er⟩, hR⟩ : ∃ R, wideF F c = R := ⟨_, rfl⟩
  have HR := Lib.hid hR
  rw [hR]
  simp only
  obtain ⟨ok, A, B, E, ca, cb, ce, rfl, h1, h2, h3⟩ := h
  obtain ⟨w0, hw0⟩ : ∃ w0 : World, w0 = w.alloc (.cells (foC F.m (.slice A F.names.length ca) (.slice B F.lets.length cb) (.slice E F.kern.length ce)).toArray 56) := ⟨_, rfl⟩
  have hB0 : Below w.heap.size w w0 := by rw [hw0]; exact bal (Below.refl _ _) _
  have hA : BC w0 w.heap.size (foC F.m (.slice A F.names.length ca) (.slice B F.lets.length cb) (.slice E F.kern.length ce)) := by rw [hw0]; exact BC.new _ 56 rfl
  clear h1 h2 h3 ok hR
  go_enter Tryz.func105, Tryz.ntmps105
  go_upto_region 1 with (fail)
  rw [← hw0]
  clear hw0
  go_wp2_with (first
    | (refine wpList_load_rec rfl _ _ rfl w.heap.size rfl _ 9 foT hA rfl ?_)
    | fail)
  refine (HO.out _ hB0).mono ?_; rintro e w1 ⟨rfl, hb1⟩
  have B1 := btr hB0 hb1
  have hA1 := hA.below hb1
  clear hA hb1 HO hB0
  cases hf : openB F
  · have HE := Lib.hid (show wd = 0 ∧ er = 1 by have := HR.out; unfold wideF at this; rw [hf] at this; simp only [Bool.false_eq_true, if_false, Prod.mk.injEq] at this; exact ⟨this.1.symm, this.2.symm⟩)
    clear HR hf
    go_wp2
    go_ret2
    rw [HE.out.1, HE.out.2]
    exact ⟨rfl, B1⟩
  have HE := Lib.hid (show wd = (runF F c).1.2 ∧ er = (runF F c).2 by have := HR.out; unfold wideF at this; rw [hf] at this; simp only [if_true, Prod.mk.injEq] at this; exact ⟨this.1.symm, this.2.symm⟩)
  have HRF := Lib.hid (runF_letter (c := c) hf)
  obtain ⟨Y, hY⟩ : ∃ Y, letterF F c = Y := ⟨_, rfl⟩
  rw [hY] at HL HRF HSZ
  clear HR hf hY
  go_wp2_with (first
    | (refine wpList_load_rec rfl _ _ rfl w.heap.size rfl _ 9 foT hA1 rfl ?_)
    | fail)
  refine (HL.out _ B1).mono ?_; rintro e w2 ⟨rfl, hb2⟩
  have B2 := btr B1 hb2
  clear hb2 hA1 B1 HL
  cases Y with
  | none =>
    have HE2 := Lib.hid (show wd = 0 ∧ er = 16 by rw [HE.out.1, HE.out.2, HRF.out]; exact ⟨rfl, rfl⟩)
    clear HE HRF HSZ
    simp only [letV, Option.getD_none, Option.isSome_none, le0]
    go_wp2
    go_ret2
    rw [HE2.out.1, HE2.out.2]
    exact ⟨rfl, bal B2 _⟩
  | some x =>
    have hz := HSZ.out x rfl
    obtain ⟨⟨⟨L, wd2⟩, er2⟩, hG⟩ : ∃ G, RunG (bl x.prog) = G := ⟨_, rfl⟩
    obtain ⟨n, hn⟩ : ∃ n, L.length = n := ⟨_, rfl⟩
    have HRun := Lib.hid fun W => rRun_is (p := x.prog) (n := n) W hz hG hn
    have HRF2 := Lib.hid (show runF F c = if er2 = 0 then ((L, wd2), er2) else (([], 0), 16) by rw [HRF.out]; simp only [hG])
    clear HRF HSZ hz hG hn
    simp only [letV, Option.getD_some, Option.isSome_some]
    go_wp2_with fail
    refine (HRun.out _).mono ?_; rintro e w3 ⟨A3, c3, rfl, hs3, hb3⟩
    have B3 := btr (bal B2 _) hb3
    clear hs3 hb3 HRun
    by_cases he : er2 = 0
    · have HE2 := Lib.hid (show wd = wd2 ∧ er = 0 by rw [HE.out.1, HE.out.2, HRF2.out, if_pos he]; exact ⟨rfl, he⟩)
      have he' : (er2 != 0) = false := by simp [he]
      clear HE HRF2 he
      go_wp2
      go_ret2
      rw [HE2.out.1, HE2.out.2]
      exact ⟨rfl, B3⟩
    · have HE2 := Lib.hid (show wd = 0 ∧ er = 16 by rw [HE.out.1, HE.out.2, HRF2.out, if_neg he]; exact ⟨rfl, rfl⟩)
      have he' : (er2 != 0) = true := by simp [he]
      clear HE HRF2 he
      go_wp2
      go_ret2
      rw [HE2.out.1, HE2.out.2]
      exact ⟨rfl, B3⟩
end Go.Proofs.YtdfkbbcoolgfiaaGreat

namespace Go.Proofs.YtdfkbbcoolgfiaaGreat
open Go.RowKit Go.Maps Go.BigFrame

set_option maxRecDepth 100000 in
set_option maxHeartbeats 4000000 in
theorem rPath_any (F : Fo) (C : List Value) (m : Mt) (x y : Int) (c : Nat) (R : List Sg × Int) (w : World) (hc : c < 256) (h : FoAt w F C) (hR : pathF F m x y c = R) :
    Calls Tryz.prog 103 #[.agg C.toArray, mtv m, .int .i64 x, .int .i64 y, .int .u8 c] w fun e w' => Below w.heap.size w w' ∧ ∃ A' c', e = .returned (.tuple #[.slice A' R.1.length c', .int .i64 R.2]) ∧
      Sl w' 5 A' R.1.length (sgs R.1) := by
  have HO := Lib.hid fun W (hb : Below w.heap.size w W) => rFair40_any F C m x y W (h.below hb)
  have HL := Lib.hid fun W (hb : Below w.heap.size w W) => rLetter_any F C c W hc (h.below hb)
  have HSZ := Lib.hid fun x (hx : letterF F c = some x) => letter_sz hx
  have HMo := Lib.hid fun W => rMove_any x y W
  obtain ⟨⟨M1, e1⟩, hM1⟩ : ∃ R, mulB (moveM x y) m = R := ⟨_, rfl⟩
  obtain ⟨⟨M2, e2⟩, hM2⟩ : ∃ R, mulB F.m M1 = R := ⟨_, rfl⟩
  have HMu1 := Lib.hid fun W => rMul_any (moveM x y) m (M1, e1) W hM1
  have HMu2 := Lib.hid fun W => rMul_any F.m M1 (M2, e2) W hM2
  have HPLC := Lib.hid fun l => (show placeF F m x y l = if e1 ≠ 0 then ([], e1) else if e2 ≠ 0 then ([], e2) else plL M2 [] l by unfold placeF; rw [hM1]; simp only [hM2])
  have HR2 : Hid (R = if fairF F m x y then (if (runF F c).2 ≠ 0 then ([], (runF F c).2) else placeF F m x y (runF F c).1.1) else ([], 1)) := Lib.hid (by rw [← hR]; rfl)
  have HFO := Lib.hid fun (hq : fairF F m x y = true) => (show openB F = true by unfold fairF at hq; simp only [Bool.and_eq_true] at hq; exact hq.1.1.1)
  obtain ⟨ok, A, B, E, ca, cb, ce, rfl, h1, h2, h3⟩ := h
  rw [vm m]
  obtain ⟨w0, hw0⟩ : ∃ w0 : World, w0 = (w.alloc (.cells (foC F.m (.slice A F.names.length ca) (.slice B F.lets.length cb) (.slice E F.kern.length ce)).toArray 56)).alloc (.cells (mtC m).toArray 23) := ⟨_, rfl⟩
  have hB0 : Below w.heap.size w w0 := by rw [hw0]; exact bal (bal (Below.refl _ _) _) _
  have hA : BC w0 w.heap.size (foC F.m (.slice A F.names.length ca) (.slice B F.lets.length cb) (.slice E F.kern.length ce)) := by rw [hw0]; exact (BC.new _ 56 rfl).below (bal (Below.refl _ _) _)
  have hM : BC w0 (w.heap.size + 1) (mtC m) := by rw [hw0]; exact BC.new (w := w.alloc _) (mtC m) 23 (by simp)
  simp only [vm] at HO HMo HMu1 HMu2
  clear hR h1 h2 h3 ok hM1 hM2
  go_enter Tryz.func103, Tryz.ntmps103
  go_upto_region 1 with (fail)
  rw [← hw0]
  clear hw0
  go_wp2_with (first
    | (refine wpList_load_rec rfl _ _ rfl w.heap.size rfl _ 9 foT hA rfl ?_)
    | (refine wpList_load_rec rfl _ _ rfl (w.heap.size + 1) rfl _ 6 matT2 hM rfl ?_)
    | fail)
  refine (HO.out _ hB0).mono ?_; rintro e w1 ⟨rfl, hb1⟩
  have B1 := btr hB0 hb1
  have hA1 := hA.below hb1
  have hM1 := hM.below hb1
  clear hA hM hb1 HO hB0
  cases hq : fairF F m x y
  · have HE := Lib.hid (show R = ([], 1) by rw [HR2.out, hq]; rfl)
    clear HR2 hq
    go_wp2
    go_ret2
    rw [HE.out]
    exact ⟨B1, none, 0, rfl, Sl.nil_⟩
  rw [hq, if_pos rfl] at HR2
  have HRF := Lib.hid (runF_letter (c := c) (HFO.out hq))
  obtain ⟨Y, hY⟩ : ∃ Y, letterF F c = Y := ⟨_, rfl⟩
  rw [hY] at HL HRF HSZ
  clear hq hY HFO
  go_wp2_with (first
    | (refine wpList_load_rec rfl _ _ rfl w.heap.size rfl _ 9 foT hA1 rfl ?_)
    | fail)
  refine (HL.out _ B1).mono ?_; rintro e w2 ⟨rfl, hb2⟩
  have B2 := btr B1 hb2
  have hA2 := hA1.below hb2
  have hM2 := hM1.below hb2
  clear hb2 hA1 hM1 B1 HL
  cases Y with
  | none =>
    have HE := Lib.hid (show R = ([], 16) by rw [HR2.out, HRF.out]; rfl)
    clear HR2 HRF HSZ
    simp only [letV, Option.getD_none, Option.isSome_none, le0]
    go_wp2
    go_ret2
    rw [HE.out]
    exact ⟨bal B2 _, none, 0, rfl, Sl.nil_⟩
  | some xl =>
    have hz := HSZ.out xl rfl
    have hm3 := Lib.hid (run_ok (bl xl.prog)).1
    obtain ⟨⟨⟨L, wd⟩, er⟩, hG⟩ : ∃ G, RunG (bl xl.prog) = G := ⟨_, rfl⟩
    obtain ⟨n, hn⟩ : ∃ n, L.length = n := ⟨_, rfl⟩
    have HRun := Lib.hid fun W => rRun_is (p := xl.prog) (n := n) W hz hG hn
    have HRF2 := Lib.hid (show runF F c = if er = 0 then ((L, wd), er) else (([], 0), 16) by rw [HRF.out]; simp only [hG])
    rw [hG] at hm3
    simp only at hm3
    clear HRF HSZ hz hG hn
    simp only [letV, Option.getD_some, Option.isSome_some]
    go_wp2_with fail
    refine (HRun.out _).mono ?_; rintro e w4 ⟨A3, c3, rfl, hs4, hb4⟩
    have b4 := btr (bal (Below.refl w2.heap.size w2) (.cells #[.string xl.name, .string xl.prog] 145)) hb4
    have B4 := btr B2 b4
    have hA4 := hA2.below b4
    have hM4 := hM2.below b4
    clear hA2 hM2 hb4 b4 B2 HRun
    by_cases he : er = 0
    · have HR4 : Hid (R = if e1 ≠ 0 then ([], e1) else if e2 ≠ 0 then ([], e2) else plL M2 [] L) := Lib.hid (by
        rw [HR2.out, HRF2.out, if_pos he, if_neg (by simpa using he)]; exact HPLC.out L)
      have he' : (er != 0) = false := by simp [he]
      have HMm := Lib.hid fun (W : World) (hW : ∃ y : Grown w4, W = y.world) => (show BC W (w.heap.size + 1) _ by obtain ⟨y, rfl⟩ := hW; exact hM4.below y.below)
      clear HR2 HRF2 HPLC he
      go_upto_region 9 with (fail)
      obtain ⟨wn, hwn⟩ : ∃ W, W = w4.drew := ⟨_, rfl⟩
      have HB : Below w4.heap.size w4 wn := by rw [hwn]; exact bdrew (Below.refl _ _)
      refine wp_region_ord (fun W => ∃ y : Grown w4, W = y.world) [] 11 (by kernel_rfl) (by kernel_rfl) ⟨⟨_, bdrew (Below.refl _ _)⟩, rfl⟩ ?_
      intro hS
      have HG := Lib.hid (fun (W : World) (hW : Below w4.heap.size w4 W) => (⟨⟨W, hW⟩, rfl⟩ : ∃ y : Grown w4, W = y.world))
      refine ord_take (v := ?_) 0 rfl rfl (by kernel_rfl) (by kernel_rfl) (fun _ _ _ h => h) (Or.inl ⟨by rfl, ?_⟩) hS ?_
      rotate_left
      · rintro W ⟨y, rfl⟩
        go_simp
        (try with_reducible rfl)
      simp only [Act.put, List.setIfInBounds_toArray, List.set_cons_zero, List.set_cons_succ]
      refine ord_take (v := ?_) 1 rfl rfl (by kernel_rfl) (by kernel_rfl) (fun _ _ _ h => h) (Or.inl ⟨by rfl, ?_⟩) hS ?_
      rotate_left
      · rintro W ⟨y, rfl⟩
        go_simp
        (try with_reducible rfl)
      simp only [Act.put, List.setIfInBounds_toArray, List.set_cons_zero, List.set_cons_succ]
      refine ord_take 3 rfl rfl (by kernel_rfl) (by kernel_rfl) (fun _ _ _ h => h) (yieldsIf_rec (by rfl) _ _ rfl _ rfl _ 6 matT2 HMm.out rfl) hS ?_
      simp only [Act.put, List.setIfInBounds_toArray, List.set_cons_zero, List.set_cons_succ]
      rw [← hwn] at hS ⊢
      clear hwn HMm hM4
      refine ord_two 2 8 rfl rfl (by kernel_rfl) rfl rfl ?_ ?_
      · intro K hK
        go_simp
        refine (HMo.out _).mono ?_; rintro e wn ⟨rfl, hbn⟩
        have Hn := btr HB hbn
        refine hK.out _ _ (HG.out _ Hn) ?_
        clear hK K HB
        have HB := Hn
        clear Hn
        try simp only
        have hS := HG.out _ HB
        refine ord_two 4 8 rfl rfl (by kernel_rfl) rfl rfl ?_ ?_
        · intro K hK
          go_simp
          refine (HMu1.out _).mono ?_; rintro e wn ⟨rfl, hbn⟩
          have Hn := btr HB hbn
          refine hK.out _ _ (HG.out _ Hn) ?_
          clear hK K HB
          have HB := Hn
          clear Hn
          try simp only
          have hS := HG.out _ HB
          refine ord_take (v := ?_) 5 rfl rfl (by kernel_rfl) (by kernel_rfl) (fun _ _ _ h => h) (Or.inl ⟨by rfl, ?_⟩) hS ?_
          rotate_left
          · rintro W ⟨y, rfl⟩
            go_simp
            (try with_reducible rfl)
          simp only [Act.put, List.setIfInBounds_toArray, List.set_cons_zero, List.set_cons_succ]
          refine ord_take (v := ?_) 6 rfl rfl (by kernel_rfl) (by kernel_rfl) (fun _ _ _ h => h) (Or.inl ⟨by rfl, ?_⟩) hS ?_
          rotate_left
          · rintro W ⟨y, rfl⟩
            go_simp
            (try with_reducible rfl)
          simp only [Act.put, List.setIfInBounds_toArray, List.set_cons_zero, List.set_cons_succ]
          refine ord_take (v := ?_) 7 rfl rfl (by kernel_rfl) (by kernel_rfl) (fun _ _ _ h => h) (Or.inl ⟨by rfl, ?_⟩) hS ?_
          rotate_left
          · rintro W ⟨y, rfl⟩
            go_simp
            (try with_reducible rfl)
          simp only [Act.put, List.setIfInBounds_toArray, List.set_cons_zero, List.set_cons_succ]
          refine ord_one 8 rfl (by kernel_rfl) rfl ?_
          intro K hK
          go_simp
          obtain ⟨wm, hwm⟩ : ∃ W, W = wn.alloc (.cells #[.int .i64 0, .int .i64 0, .int .i64 0, .int .i64 0, .int .i64 0, .int .i64 0] 23) := ⟨_, rfl⟩
          have HZ : BC wm wn.heap.size (mtC zeroM) := by rw [hwm]; exact BC.new (mtC zeroM) 23 rfl
          have Hn : Below w4.heap.size w4 wm := by rw [hwm]; exact bal HB _
          have hgm := HB.size
          obtain ⟨gM, hgM⟩ : ∃ g, g = wn.heap.size := ⟨_, rfl⟩
          rw [← hwm, ← hgM]
          rw [← hgM] at HZ hgm
          refine hK.out _ _ (HG.out _ Hn) ?_
          clear hK K HB hwm hgM
          obtain ⟨wn, hwn⟩ : ∃ W, W = wm := ⟨_, rfl⟩
          rw [← hwn] at Hn HZ ⊢
          have HB := Hn
          clear Hn hwn
          try simp only
          have hS := HG.out _ HB
          clear hS
          refine ord_one 9 rfl (by kernel_rfl) rfl ?_
          intro K hK
          rw [if_pos (by rfl)]
          refine wp_store_mid 23 _ _ rfl gM 0 (mtC M1).toArray rfl rfl HZ.there (by kernel_rfl) (all_oneCell_toArray (mtC_oneR M1)) ?_
          refine hK.out _ _ (HG.out _ (below_setCells hgm _ _ _ HB)) ?_
          clear hK K
          try simp only
          obtain ⟨w5, hw5⟩ : ∃ W, W = wn.setCells gM 0 (mtC M1) := ⟨_, rfl⟩
          have Q5 : Below w4.heap.size w4 w5 := by rw [hw5]; exact below_setCells hgm _ _ _ HB
          have hM5 : BC w5 gM (mtC M1) := by rw [hw5]; exact HZ.putAll _ rfl
          have hw5' : wn.setCells gM 0 (mtC M1).toArray.toList = w5 := hw5.symm
          rw [hw5']
          have hS := HG.out _ Q5
          refine ord_take (v := ?_) 10 rfl rfl (by kernel_rfl) (by kernel_rfl) (fun _ _ _ h => h) (Or.inl ⟨by rfl, ?_⟩) hS ?_
          rotate_left
          · rintro W ⟨y, rfl⟩
            go_simp
            (try with_reducible rfl)
          simp only [Act.put, List.setIfInBounds_toArray, List.set_cons_zero, List.set_cons_succ]
          clear hS
          refine ⟨by kernel_rfl, ?_⟩
          refine NoPanic.normal ?_
          clear hw5 hw5' HZ HB HG HMo HMu1
          have B5 := btr B4 Q5
          have hA5 := hA4.below Q5
          by_cases he1 : e1 = 0
          · have HR5 : Hid (R = if e2 ≠ 0 then ([], e2) else plL M2 [] L) := Lib.hid (by rw [HR4.out, if_neg (by simpa using he1)])
            have he1' : (e1 != 0) = false := by simp [he1]
            clear he1 HR4
            go_wp2_with (first
              | (refine wpList_load_foM rfl _ _ rfl w.heap.size rfl F.m _ _ _ matT2 hA5 ?_)
              | (refine wpList_load_rec rfl _ _ rfl gM rfl _ 6 matT2 hM5 rfl ?_)
              | fail)
            refine (HMu2.out _).mono ?_; rintro e w6 ⟨rfl, b6⟩
            have Q6 := btr Q5 b6
            have hM6 := hM5.below b6
            obtain ⟨w7, hw7⟩ : ∃ W, W = w6.setCells gM 0 (mtC M2) := ⟨_, rfl⟩
            have HW7 := Lib.hid hw7
            have Q7 : Below w4.heap.size w4 w7 := by rw [hw7]; exact below_setCells hgm _ _ _ Q6
            have hM7 : BC w7 gM (mtC M2) := by rw [hw7]; exact hM6.putAll _ rfl
            have B7 := btr B4 Q7
            have hs7 := hs4.below Q7
            clear hw7 b6 Q6 hA5 hM5 HMu2
            by_cases he2 : e2 = 0
            · have HR6 : Hid (R = plL M2 [] L) := Lib.hid (by rw [HR5.out, if_neg (by simpa using he2)])
              have he2' : (e2 != 0) = false := by simp [he2]
              have HMV := Lib.hid (moved_any M2 A3 n c3 L R w7 hs7 hm3.out HR6.out.symm)
              simp only [vm] at HMV
              clear he2 HR5 hs7
              go_wp2_with (first
                | (refine wpList_store_rec rfl _ _ _ rfl gM (mtC M2) _ rfl rfl 6 matT2 hM6 rfl rfl (mtC_oneR _) ?_; rw [← HW7.out])
                | (refine wpList_load_rec rfl _ _ rfl gM rfl _ 6 matT2 hM7 rfl ?_)
                | fail)
              refine HMV.out.mono ?_; rintro e w8 ⟨b8, A8, c8, rfl, ho8⟩
              go_wp2
              go_ret2
              exact ⟨btr B7 b8, A8, c8, rfl, own_sl ho8⟩
            · have HE := Lib.hid (show R = ([], e2) by rw [HR5.out, if_pos (by simpa using he2)])
              have he2' : (e2 != 0) = true := by simp [he2]
              clear HR5 he2
              go_wp2_with (first
                | (refine wpList_store_rec rfl _ _ _ rfl gM (mtC M2) _ rfl rfl 6 matT2 hM6 rfl rfl (mtC_oneR _) ?_; rw [← HW7.out])
                | fail)
              go_ret2
              rw [HE.out]
              exact ⟨B7, none, 0, rfl, Sl.nil_⟩
          · have HE := Lib.hid (show R = ([], e1) by rw [HR4.out, if_pos (by simpa using he1)])
            have he1' : (e1 != 0) = true := by simp [he1]
            clear HR4 he1
            go_wp2
            go_ret2
            rw [HE.out]
            exact ⟨B5, none, 0, rfl, Sl.nil_⟩
        · intro K hK
          go_simp
          obtain ⟨wm, hwm⟩ : ∃ W, W = wn.alloc (.cells #[.int .i64 0, .int .i64 0, .int .i64 0, .int .i64 0, .int .i64 0, .int .i64 0] 23) := ⟨_, rfl⟩
          have HZ : BC wm wn.heap.size (mtC zeroM) := by rw [hwm]; exact BC.new (mtC zeroM) 23 rfl
          have Hn : Below w4.heap.size w4 wm := by rw [hwm]; exact bal HB _
          have hgm := HB.size
          obtain ⟨gM, hgM⟩ : ∃ g, g = wn.heap.size := ⟨_, rfl⟩
          rw [← hwm, ← hgM]
          rw [← hgM] at HZ hgm
          refine hK.out _ _ (HG.out _ Hn) ?_
          clear hK K HB hwm hgM
          obtain ⟨wn, hwn⟩ : ∃ W, W = wm := ⟨_, rfl⟩
          rw [← hwn] at Hn HZ ⊢
          have HB := Hn
          clear Hn hwn
          try simp only
          have hS := HG.out _ HB
          refine ord_one 4 rfl (by kernel_rfl) rfl ?_
          intro K hK
          go_simp
          refine (HMu1.out _).mono ?_; rintro e wn ⟨rfl, hbn⟩
          have Hn := btr HB hbn
          refine hK.out _ _ (HG.out _ Hn) ?_
          clear hK K HB
          have HB := Hn
          clear Hn
          try simp only
          have hS := HG.out _ HB
          replace HZ := HZ.below hbn
          refine ord_take (v := ?_) 5 rfl rfl (by kernel_rfl) (by kernel_rfl) (fun _ _ _ h => h) (Or.inl ⟨by rfl, ?_⟩) hS ?_
          rotate_left
          · rintro W ⟨y, rfl⟩
            go_simp
            (try with_reducible rfl)
          simp only [Act.put, List.setIfInBounds_toArray, List.set_cons_zero, List.set_cons_succ]
          refine ord_take (v := ?_) 6 rfl rfl (by kernel_rfl) (by kernel_rfl) (fun _ _ _ h => h) (Or.inl ⟨by rfl, ?_⟩) hS ?_
          rotate_left
          · rintro W ⟨y, rfl⟩
            go_simp
            (try with_reducible rfl)
          simp only [Act.put, List.setIfInBounds_toArray, List.set_cons_zero, List.set_cons_succ]
          refine ord_take (v := ?_) 7 rfl rfl (by kernel_rfl) (by kernel_rfl) (fun _ _ _ h => h) (Or.inl ⟨by rfl, ?_⟩) hS ?_
          rotate_left
          · rintro W ⟨y, rfl⟩
            go_simp
            (try with_reducible rfl)
          simp only [Act.put, List.setIfInBounds_toArray, List.set_cons_zero, List.set_cons_succ]
          clear hS
          refine ord_one 9 rfl (by kernel_rfl) rfl ?_
          intro K hK
          rw [if_pos (by rfl)]
          refine wp_store_mid 23 _ _ rfl gM 0 (mtC M1).toArray rfl rfl HZ.there (by kernel_rfl) (all_oneCell_toArray (mtC_oneR M1)) ?_
          refine hK.out _ _ (HG.out _ (below_setCells hgm _ _ _ HB)) ?_
          clear hK K
          try simp only
          obtain ⟨w5, hw5⟩ : ∃ W, W = wn.setCells gM 0 (mtC M1) := ⟨_, rfl⟩
          have Q5 : Below w4.heap.size w4 w5 := by rw [hw5]; exact below_setCells hgm _ _ _ HB
          have hM5 : BC w5 gM (mtC M1) := by rw [hw5]; exact HZ.putAll _ rfl
          have hw5' : wn.setCells gM 0 (mtC M1).toArray.toList = w5 := hw5.symm
          rw [hw5']
          have hS := HG.out _ Q5
          refine ord_take (v := ?_) 10 rfl rfl (by kernel_rfl) (by kernel_rfl) (fun _ _ _ h => h) (Or.inl ⟨by rfl, ?_⟩) hS ?_
          rotate_left
          · rintro W ⟨y, rfl⟩
            go_simp
            (try with_reducible rfl)
          simp only [Act.put, List.setIfInBounds_toArray, List.set_cons_zero, List.set_cons_succ]
          clear hS
          refine ⟨by kernel_rfl, ?_⟩
          refine NoPanic.normal ?_
          clear hw5 hw5' HZ HB HG HMo HMu1
          have B5 := btr B4 Q5
          have hA5 := hA4.below Q5
          by_cases he1 : e1 = 0
          · have HR5 : Hid (R = if e2 ≠ 0 then ([], e2) else plL M2 [] L) := Lib.hid (by rw [HR4.out, if_neg (by simpa using he1)])
            have he1' : (e1 != 0) = false := by simp [he1]
            clear he1 HR4
            go_wp2_with (first
              | (refine wpList_load_foM rfl _ _ rfl w.heap.size rfl F.m _ _ _ matT2 hA5 ?_)
              | (refine wpList_load_rec rfl _ _ rfl gM rfl _ 6 matT2 hM5 rfl ?_)
              | fail)
            refine (HMu2.out _).mono ?_; rintro e w6 ⟨rfl, b6⟩
            have Q6 := btr Q5 b6
            have hM6 := hM5.below b6
            obtain ⟨w7, hw7⟩ : ∃ W, W = w6.setCells gM 0 (mtC M2) := ⟨_, rfl⟩
            have HW7 := Lib.hid hw7
            have Q7 : Below w4.heap.size w4 w7 := by rw [hw7]; exact below_setCells hgm _ _ _ Q6
            have hM7 : BC w7 gM (mtC M2) := by rw [hw7]; exact hM6.putAll _ rfl
            have B7 := btr B4 Q7
            have hs7 := hs4.below Q7
            clear hw7 b6 Q6 hA5 hM5 HMu2
            by_cases he2 : e2 = 0
            · have HR6 : Hid (R = plL M2 [] L) := Lib.hid (by rw [HR5.out, if_neg (by simpa using he2)])
              have he2' : (e2 != 0) = false := by simp [he2]
              have HMV := Lib.hid (moved_any M2 A3 n c3 L R w7 hs7 hm3.out HR6.out.symm)
              simp only [vm] at HMV
              clear he2 HR5 hs7
              go_wp2_with (first
                | (refine wpList_store_rec rfl _ _ _ rfl gM (mtC M2) _ rfl rfl 6 matT2 hM6 rfl rfl (mtC_oneR _) ?_; rw [← HW7.out])
                | (refine wpList_load_rec rfl _ _ rfl gM rfl _ 6 matT2 hM7 rfl ?_)
                | fail)
              refine HMV.out.mono ?_; rintro e w8 ⟨b8, A8, c8, rfl, ho8⟩
              go_wp2
              go_ret2
              exact ⟨btr B7 b8, A8, c8, rfl, own_sl ho8⟩
            · have HE := Lib.hid (show R = ([], e2) by rw [HR5.out, if_pos (by simpa using he2)])
              have he2' : (e2 != 0) = true := by simp [he2]
              clear HR5 he2
              go_wp2_with (first
                | (refine wpList_store_rec rfl _ _ _ rfl gM (mtC M2) _ rfl rfl 6 matT2 hM6 rfl rfl (mtC_oneR _) ?_; rw [← HW7.out])
                | fail)
              go_ret2
              rw [HE.out]
              exact ⟨B7, none, 0, rfl, Sl.nil_⟩
          · have HE := Lib.hid (show R = ([], e1) by rw [HR4.out, if_pos (by simpa using he1)])
            have he1' : (e1 != 0) = true := by simp [he1]
            clear HR4 he1
            go_wp2
            go_ret2
            rw [HE.out]
            exact ⟨B5, none, 0, rfl, Sl.nil_⟩
      · intro K hK
        go_simp
        obtain ⟨wm, hwm⟩ : ∃ W, W = wn.alloc (.cells #[.int .i64 0, .int .i64 0, .int .i64 0, .int .i64 0, .int .i64 0, .int .i64 0] 23) := ⟨_, rfl⟩
        have HZ : BC wm wn.heap.size (mtC zeroM) := by rw [hwm]; exact BC.new (mtC zeroM) 23 rfl
        have Hn : Below w4.heap.size w4 wm := by rw [hwm]; exact bal HB _
        have hgm := HB.size
        obtain ⟨gM, hgM⟩ : ∃ g, g = wn.heap.size := ⟨_, rfl⟩
        rw [← hwm, ← hgM]
        rw [← hgM] at HZ hgm
        refine hK.out _ _ (HG.out _ Hn) ?_
        clear hK K HB hwm hgM
        obtain ⟨wn, hwn⟩ : ∃ W, W = wm := ⟨_, rfl⟩
        rw [← hwn] at Hn HZ ⊢
        have HB := Hn
        clear Hn hwn
        try simp only
        have hS := HG.out _ HB
        refine ord_one 2 rfl (by kernel_rfl) rfl ?_
        intro K hK
        go_simp
        refine (HMo.out _).mono ?_; rintro e wn ⟨rfl, hbn⟩
        have Hn := btr HB hbn
        refine hK.out _ _ (HG.out _ Hn) ?_
        clear hK K HB
        have HB := Hn
        clear Hn
        try simp only
        have hS := HG.out _ HB
        replace HZ := HZ.below hbn
        clear hbn
        refine ord_one 4 rfl (by kernel_rfl) rfl ?_
        intro K hK
        go_simp
        refine (HMu1.out _).mono ?_; rintro e wn ⟨rfl, hbn⟩
        have Hn := btr HB hbn
        refine hK.out _ _ (HG.out _ Hn) ?_
        clear hK K HB
        have HB := Hn
        clear Hn
        try simp only
        have hS := HG.out _ HB
        replace HZ := HZ.below hbn
        refine ord_take (v := ?_) 5 rfl rfl (by kernel_rfl) (by kernel_rfl) (fun _ _ _ h => h) (Or.inl ⟨by rfl, ?_⟩) hS ?_
        rotate_left
        · rintro W ⟨y, rfl⟩
          go_simp
          (try with_reducible rfl)
        simp only [Act.put, List.setIfInBounds_toArray, List.set_cons_zero, List.set_cons_succ]
        refine ord_take (v := ?_) 6 rfl rfl (by kernel_rfl) (by kernel_rfl) (fun _ _ _ h => h) (Or.inl ⟨by rfl, ?_⟩) hS ?_
        rotate_left
        · rintro W ⟨y, rfl⟩
          go_simp
          (try with_reducible rfl)
        simp only [Act.put, List.setIfInBounds_toArray, List.set_cons_zero, List.set_cons_succ]
        refine ord_take (v := ?_) 7 rfl rfl (by kernel_rfl) (by kernel_rfl) (fun _ _ _ h => h) (Or.inl ⟨by rfl, ?_⟩) hS ?_
        rotate_left
        · rintro W ⟨y, rfl⟩
          go_simp
          (try with_reducible rfl)
        simp only [Act.put, List.setIfInBounds_toArray, List.set_cons_zero, List.set_cons_succ]
        clear hS
        refine ord_one 9 rfl (by kernel_rfl) rfl ?_
        intro K hK
        rw [if_pos (by rfl)]
        refine wp_store_mid 23 _ _ rfl gM 0 (mtC M1).toArray rfl rfl HZ.there (by kernel_rfl) (all_oneCell_toArray (mtC_oneR M1)) ?_
        refine hK.out _ _ (HG.out _ (below_setCells hgm _ _ _ HB)) ?_
        clear hK K
        try simp only
        obtain ⟨w5, hw5⟩ : ∃ W, W = wn.setCells gM 0 (mtC M1) := ⟨_, rfl⟩
        have Q5 : Below w4.heap.size w4 w5 := by rw [hw5]; exact below_setCells hgm _ _ _ HB
        have hM5 : BC w5 gM (mtC M1) := by rw [hw5]; exact HZ.putAll _ rfl
        have hw5' : wn.setCells gM 0 (mtC M1).toArray.toList = w5 := hw5.symm
        rw [hw5']
        have hS := HG.out _ Q5
        refine ord_take (v := ?_) 10 rfl rfl (by kernel_rfl) (by kernel_rfl) (fun _ _ _ h => h) (Or.inl ⟨by rfl, ?_⟩) hS ?_
        rotate_left
        · rintro W ⟨y, rfl⟩
          go_simp
          (try with_reducible rfl)
        simp only [Act.put, List.setIfInBounds_toArray, List.set_cons_zero, List.set_cons_succ]
        clear hS
        refine ⟨by kernel_rfl, ?_⟩
        refine NoPanic.normal ?_
        clear hw5 hw5' HZ HB HG HMo HMu1
        have B5 := btr B4 Q5
        have hA5 := hA4.below Q5
        by_cases he1 : e1 = 0
        · have HR5 : Hid (R = if e2 ≠ 0 then ([], e2) else plL M2 [] L) := Lib.hid (by rw [HR4.out, if_neg (by simpa using he1)])
          have he1' : (e1 != 0) = false := by simp [he1]
          clear he1 HR4
          go_wp2_with (first
            | (refine wpList_load_foM rfl _ _ rfl w.heap.size rfl F.m _ _ _ matT2 hA5 ?_)
            | (refine wpList_load_rec rfl _ _ rfl gM rfl _ 6 matT2 hM5 rfl ?_)
            | fail)
          refine (HMu2.out _).mono ?_; rintro e w6 ⟨rfl, b6⟩
          have Q6 := btr Q5 b6
          have hM6 := hM5.below b6
          obtain ⟨w7, hw7⟩ : ∃ W, W = w6.setCells gM 0 (mtC M2) := ⟨_, rfl⟩
          have HW7 := Lib.hid hw7
          have Q7 : Below w4.heap.size w4 w7 := by rw [hw7]; exact below_setCells hgm _ _ _ Q6
          have hM7 : BC w7 gM (mtC M2) := by rw [hw7]; exact hM6.putAll _ rfl
          have B7 := btr B4 Q7
          have hs7 := hs4.below Q7
          clear hw7 b6 Q6 hA5 hM5 HMu2
          by_cases he2 : e2 = 0
          · have HR6 : Hid (R = plL M2 [] L) := Lib.hid (by rw [HR5.out, if_neg (by simpa using he2)])
            have he2' : (e2 != 0) = false := by simp [he2]
            have HMV := Lib.hid (moved_any M2 A3 n c3 L R w7 hs7 hm3.out HR6.out.symm)
            simp only [vm] at HMV
            clear he2 HR5 hs7
            go_wp2_with (first
              | (refine wpList_store_rec rfl _ _ _ rfl gM (mtC M2) _ rfl rfl 6 matT2 hM6 rfl rfl (mtC_oneR _) ?_; rw [← HW7.out])
              | (refine wpList_load_rec rfl _ _ rfl gM rfl _ 6 matT2 hM7 rfl ?_)
              | fail)
            refine HMV.out.mono ?_; rintro e w8 ⟨b8, A8, c8, rfl, ho8⟩
            go_wp2
            go_ret2
            exact ⟨btr B7 b8, A8, c8, rfl, own_sl ho8⟩
          · have HE := Lib.hid (show R = ([], e2) by rw [HR5.out, if_pos (by simpa using he2)])
            have he2' : (e2 != 0) = true := by simp [he2]
            clear HR5 he2
            go_wp2_with (first
              | (refine wpList_store_rec rfl _ _ _ rfl gM (mtC M2) _ rfl rfl 6 matT2 hM6 rfl rfl (mtC_oneR _) ?_; rw [← HW7.out])
              | fail)
            go_ret2
            rw [HE.out]
            exact ⟨B7, none, 0, rfl, Sl.nil_⟩
        · have HE := Lib.hid (show R = ([], e1) by rw [HR4.out, if_pos (by simpa using he1)])
          have he1' : (e1 != 0) = true := by simp [he1]
          clear HR4 he1
          go_wp2
          go_ret2
          rw [HE.out]
          exact ⟨B5, none, 0, rfl, Sl.nil_⟩
    · have HE := Lib.hid (show R = ([], 16) by rw [HR2.out, HRF2.out, if_neg he]; rfl)
      have he' : (er != 0) = true := by simp [he]
      clear HR2 HRF2 he
      go_wp2
      go_ret2
      rw [HE.out]
      exact ⟨B4, none, 0, rfl, Sl.nil_⟩
end Go.Proofs.YtdfkbbcoolgfiaaGreat
