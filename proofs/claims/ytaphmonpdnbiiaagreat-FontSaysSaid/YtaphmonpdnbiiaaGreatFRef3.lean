/- tympanref40: fair, Wide, Path. -/
import Derived.Test.YtaphmonpdnbiiaaGreatFRef0
import Derived.Test.YtaphmonpdnbiiaaGreatFRef2
import Derived.Test.YtaphmonpdnbiiaaGreatFRefM
import Derived.Test.YtaphmonpdnbiiaaGreatMF3
import Derived.Test.YtaphmonpdnbiiaaGreatMG6
import Derived.Test.YtaphmonpdnbiiaaGreatRunOkP
namespace Go.Proofs.YtaphmonpdnbiiaaGreat
open Go.RowKit Go.Maps Go.BigFrame

/-- Two may come up: each is gone through. -/
theorem ord_two {P : Program} {md : Region.Mode} {ops : Array Oper} {S : World → Prop} {Q : Exit → Act → World → Prop} {c : List Nat} {fuel : Nat} {listed : Array Bool} {a : Act} {w : World} (k l : Nat) {o p : Oper} (h0 : ops[k]? = some o) (h1 : ops[l]? = some p)
    (hr : Region.ready md ops listed = [k, l]) (hkc : c.contains k = false) (hlc : c.contains l = false)
    (h : ∀ K : Act → World → Prop, Hid (∀ a' w', S w' → wpAnyN P md ops Q S c fuel (listed.setIfInBounds k true) a' w' → K a' w') → if Region.wanted o (yielded ops a.tmps) = true then Oper.wp P o a w K Q else K (a.put o.dst undef) w)
    (h' : ∀ K : Act → World → Prop, Hid (∀ a' w', S w' → wpAnyN P md ops Q S c fuel (listed.setIfInBounds l true) a' w' → K a' w') → if Region.wanted p (yielded ops a.tmps) = true then Oper.wp P p a w K Q else K (a.put p.dst undef) w) :
    wpAnyN P md ops Q S c (fuel + 1) listed a w := by
  refine ⟨fun he => (by rw [hr] at he; cases he), fun i hi => ?_⟩
  rw [hr, List.mem_cons, List.mem_singleton] at hi
  rcases hi with rfl | rfl
  · rw [if_pos hkc]
    unfold wpOp
    simp only [h0]
    have h3 := h (fun a' w' => S w' ∧ wpAnyN P md ops Q S c fuel (listed.setIfInBounds i true) a' w') (Lib.hid fun _ _ h1 h2 => And.intro h1 h2)
    by_cases hw : Region.wanted o (yielded ops a.tmps) = true
    · rw [if_pos hw] at h3 ⊢; exact .inl h3
    · rw [if_neg hw] at h3 ⊢; exact h3
  · rw [if_pos hlc]
    unfold wpOp
    simp only [h1]
    have h3 := h' (fun a' w' => S w' ∧ wpAnyN P md ops Q S c fuel (listed.setIfInBounds i true) a' w') (Lib.hid fun _ _ h1 h2 => And.intro h1 h2)
    by_cases hw : Region.wanted p (yielded ops a.tmps) = true
    · rw [if_pos hw] at h3 ⊢; exact .inl h3
    · rw [if_neg hw] at h3 ⊢; exact h3
theorem rRun_is {p : ByteArray} {L : List Sg} {wd er : Int} {n : Nat} (w : World) (hp : p.size ≤ 1000000) (hr : RunG (bl p) = ((L, wd), er)) (hn : L.length = n) :
    Calls Tryz.prog 45 #[.string p] w fun e w' => ∃ (A : Option Addr) (c : Nat), e = .returned (.tuple #[.slice A n c, .int .i64 wd, .int .i64 er]) ∧ Sl w' 5 A n (sgs L) ∧ Below w.heap.size w w' := by
  refine (ref_Run_any p w hp).mono ?_; rintro e w' ⟨L', wd', er', A, n', c, rfl, hr', hn', _, hs, hb⟩
  rw [hr] at hr'
  simp only [Prod.mk.injEq] at hr'
  obtain ⟨⟨rfl, rfl⟩, rfl⟩ := hr'
  rw [hn] at hn'
  subst hn'
  exact ⟨A, c, rfl, hs, hb⟩
theorem letter_sz {F : Fo} (ok : FoOK F) {c : Nat} {x : Le} (h : letterF F c = some x) : x.prog.size ≤ 1000000 := by
  unfold letterF at h
  split at h
  · exact (ok.ls x (List.mem_of_find?_eq_some h)).2
  · cases h
set_option maxRecDepth 100000 in
set_option maxHeartbeats 2000000 in
theorem rFair40_any (F : Fo) (C : List Value) (m : Mt) (x y : Int) (w : World) (h : FoAt w F C) :
    Calls Tryz.prog 38 #[.agg C.toArray, mtv m, .int .i64 x, .int .i64 y] w fun e w' => e = .returned (.bool (fairF F m x y)) ∧ Below w.heap.size w w' := by
  have HO := Lib.hid fun W (hb : Below w.heap.size w W) => rFontMay_any F C W (h.below hb)
  have HMy := Lib.hid fun W => rMay_any m W
  have HX := Lib.hid fun W => rIsFix_any x W
  have HY := Lib.hid fun W => rIsFix_any y W
  obtain ⟨R, hR⟩ : ∃ R, fairF F m x y = R := ⟨_, rfl⟩
  have HR2 : Hid (R = (openB F && mtB m && fixB x && fixB y)) := Lib.hid (by rw [← hR]; rfl)
  rw [hR]
  clear hR
  obtain ⟨ok, A, B, E, ca, cb, ce, rfl, h1, h2, h3⟩ := h
  rw [vm m]
  obtain ⟨w0, hw0⟩ : ∃ w0 : World, w0 = (w.alloc (.cells (foC F.m (.slice A F.names.length ca) (.slice B F.lets.length cb) (.slice E F.kern.length ce)).toArray 30)).alloc (.cells (mtC m).toArray 25) := ⟨_, rfl⟩
  have hB0 : Below w.heap.size w w0 := by rw [hw0]; exact bal (bal (Below.refl _ _) _) _
  have hA : BC w0 w.heap.size (foC F.m (.slice A F.names.length ca) (.slice B F.lets.length cb) (.slice E F.kern.length ce)) := by rw [hw0]; exact (BC.new _ 30 rfl).below (bal (Below.refl _ _) _)
  have hM : BC w0 (w.heap.size + 1) (mtC m) := by rw [hw0]; exact BC.new (w := w.alloc _) (mtC m) 25 (by simp)
  simp only [vm] at HMy
  clear h1 h2 h3 ok
  go_enter Tryz.func38, Tryz.ntmps38
  go_upto_region 1 with (fail)
  rw [← hw0]
  clear hw0
  go_wp2_with (first
    | (refine wpList_load_rec rfl _ _ rfl w.heap.size rfl _ 9 foT hA rfl ?_)
    | fail)
  refine (HO.out _ hB0).mono ?_; rintro e w1 ⟨rfl, hb1⟩
  have B2 := btr hB0 hb1
  have hM1 := hM.below hb1
  clear hA hM hb1 HO hB0
  cases hf : openB F
  · have HE := Lib.hid (show R = false by rw [HR2.out, hf]; simp)
    clear HR2
    go_wp2
    go_ret
    exact ⟨by rw [HE.out]; rfl, B2⟩
  go_wp2_with (first
    | (refine wpList_load_rec_g2 (by kernel_rfl) _ _ rfl (w.heap.size + 1) rfl _ 6 matT2 hM1 rfl ?_)
    | fail)
  refine (HMy.out _).mono ?_; rintro e w2 ⟨rfl, b2⟩
  replace B2 := btr B2 b2
  clear hM1 b2
  cases hm : mtB m
  · have HE := Lib.hid (show R = false by rw [HR2.out, hm]; simp)
    clear HR2
    go_wp2
    go_ret
    exact ⟨by rw [HE.out]; rfl, B2⟩
  go_wp2_with fail
  refine (HX.out _).mono ?_; rintro e w' ⟨rfl, rfl⟩
  cases hfx : fixB x
  · have HE := Lib.hid (show R = false by rw [HR2.out, hfx]; simp)
    clear HR2
    go_wp2
    go_ret
    exact ⟨by rw [HE.out]; rfl, B2⟩
  go_wp2_with fail
  refine (HY.out _).mono ?_; rintro e w' ⟨rfl, rfl⟩
  have HE := Lib.hid (show R = fixB y by rw [HR2.out, hf, hm, hfx]; rfl)
  go_wp2_with fail
  go_ret
  exact ⟨by rw [HE.out]; rfl, B2⟩
set_option maxRecDepth 100000 in
set_option maxHeartbeats 2000000 in
theorem rWide_any (F : Fo) (C : List Value) (c : Nat) (w : World) (hc : c < 256) (h : FoAt w F C) :
    Calls Tryz.prog 19 #[.agg C.toArray, .int .u8 c] w fun e w' => e = .returned (.tuple #[.int .i64 (wideF F c).1, .int .i64 (wideF F c).2]) ∧ Below w.heap.size w w' := by
  have HO := Lib.hid fun W (hb : Below w.heap.size w W) => rFontMay_any F C W (h.below hb)
  have HL := Lib.hid fun W (hb : Below w.heap.size w W) => rLetter_any F C c W hc (h.below hb)
  have HSZ := Lib.hid fun x (hx : letterF F c = some x) => letter_sz h.ok hx
  obtain ⟨⟨wd, er⟩, hR⟩ : ∃ R, wideF F c = R := ⟨_, rfl⟩
  have HR := Lib.hid hR
  rw [hR]
  simp only
  obtain ⟨ok, A, B, E, ca, cb, ce, rfl, h1, h2, h3⟩ := h
  obtain ⟨w0, hw0⟩ : ∃ w0 : World, w0 = w.alloc (.cells (foC F.m (.slice A F.names.length ca) (.slice B F.lets.length cb) (.slice E F.kern.length ce)).toArray 30) := ⟨_, rfl⟩
  have hB0 : Below w.heap.size w w0 := by rw [hw0]; exact bal (Below.refl _ _) _
  have hA : BC w0 w.heap.size (foC F.m (.slice A F.names.length ca) (.slice B F.lets.length cb) (.slice E F.kern.length ce)) := by rw [hw0]; exact BC.new _ 30 rfl
  clear h1 h2 h3 ok hR
  go_enter Tryz.func19, Tryz.ntmps19
  go_upto_region 1 with (fail)
  rw [← hw0]
  clear hw0
  go_wp2_with (first
    | (refine wpList_load_rec rfl _ _ rfl w.heap.size rfl _ 9 foT hA rfl ?_)
    | fail)
  refine (HO.out _ hB0).mono ?_; rintro e w1 ⟨rfl, hb1⟩
  have B1 := btr hB0 hb1
  have hA1 := hA.below hb1
  clear hA hb1 HO hB0
  cases hf : openB F
  · have HE := Lib.hid (show wd = 0 ∧ er = 1 by have := HR.out; unfold wideF at this; rw [hf] at this; simp only [Bool.false_eq_true, if_false, Prod.mk.injEq] at this; exact ⟨this.1.symm, this.2.symm⟩)
    clear HR hf
    go_wp2
    go_ret2
    rw [HE.out.1, HE.out.2]
    exact ⟨rfl, B1⟩
  have HE := Lib.hid (show wd = (runF F c).1.2 ∧ er = (runF F c).2 by have := HR.out; unfold wideF at this; rw [hf] at this; simp only [if_true, Prod.mk.injEq] at this; exact ⟨this.1.symm, this.2.symm⟩)
  have HRF := Lib.hid (runF_letter (c := c) hf)
  obtain ⟨Y, hY⟩ : ∃ Y, letterF F c = Y := ⟨_, rfl⟩
  rw [hY] at HL HRF HSZ
  clear HR hf hY
  go_wp2_with (first
    | (refine wpList_load_rec rfl _ _ rfl w.heap.size rfl _ 9 foT hA1 rfl ?_)
    | fail)
  refine (HL.out _ B1).mono ?_; rintro e w2 ⟨rfl, hb2⟩
  have B2 := btr B1 hb2
  clear hb2 hA1 B1 HL
  cases Y with
  | none =>
    have HE2 := Lib.hid (show wd = 0 ∧ er = 16 by rw [HE.out.1, HE.out.2, HRF.out]; exact ⟨rfl, rfl⟩)
    clear HE HRF HSZ
    simp only [letV, Option.getD_none, Option.isSome_none, le0]
    go_wp2
    go_ret2
    rw [HE2.out.1, HE2.out.2]
    exact ⟨rfl, bal B2 _⟩
  | some x =>
    have hz := HSZ.out x rfl
    obtain ⟨⟨⟨L, wd2⟩, er2⟩, hG⟩ : ∃ G, RunG (bl x.prog) = G := ⟨_, rfl⟩
    obtain ⟨n, hn⟩ : ∃ n, L.length = n := ⟨_, rfl⟩
    have HRun := Lib.hid fun W => rRun_is (p := x.prog) (n := n) W hz hG hn
    have HRF2 := Lib.hid (show runF F c = if er2 = 0 then ((L, wd2), er2) else (([], 0), 16) by rw [HRF.out]; simp only [hG])
    clear HRF HSZ hz hG hn
    simp only [letV, Option.getD_some, Option.isSome_some]
    go_wp2_with fail
    refine (HRun.out _).mono ?_; rintro e w3 ⟨A3, c3, rfl, hs3, hb3⟩
    have B3 := btr (bal B2 _) hb3
    clear hs3 hb3 HRun
    by_cases he : er2 = 0
    · have HE2 := Lib.hid (show wd = wd2 ∧ er = 0 by rw [HE.out.1, HE.out.2, HRF2.out, if_pos he]; exact ⟨rfl, he⟩)
      have he' : (er2 != 0) = false := by simp [he]
      clear HE HRF2 he
      go_wp2
      go_ret2
      rw [HE2.out.1, HE2.out.2]
      exact ⟨rfl, B3⟩
    · have HE2 := Lib.hid (show wd = 0 ∧ er = 16 by rw [HE.out.1, HE.out.2, HRF2.out, if_neg he]; exact ⟨rfl, rfl⟩)
      have he' : (er2 != 0) = true := by simp [he]
      clear HE HRF2 he
      go_wp2
      go_ret2
      rw [HE2.out.1, HE2.out.2]
      exact ⟨rfl, B3⟩
end Go.Proofs.YtaphmonpdnbiiaaGreat
