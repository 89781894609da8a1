/- font: Path. -/
import Derived.Test.YtaphmonpdnbiiaaFont6
namespace Go.Proofs.Ytaphmonpdnbiiaa
open Go.RowKit Go.Maps Go.BigFrame

set_option maxRecDepth 100000 in
set_option maxHeartbeats 4000000 in
theorem fontPath_any (F : Fo) (C : List Value) (m : Mt) (x y : Int) (c : Nat) (R : List Sg × Int) (w : World) (hc : c < 256) (h : FoAt w F C) (hR : pathF F m x y c = R) :
    Calls Try.prog 14 #[.agg C.toArray, mtv m, .int .i64 x, .int .i64 y, .int .u8 c] w fun e w' => Below w.heap.size w w' ∧ ∃ A' c', e = .returned (.tuple #[.slice A' R.1.length c', .int .i64 R.2]) ∧
      Sl w' 5 A' R.1.length (sgs R.1) := by
  have HO := Lib.hid fun W (hb : Below w.heap.size w W) => open_any F C W (h.below hb)
  have HU := Lib.hid fun b W (hb : Below w.heap.size w W) (hk : BookAt W b F.lets) (ho : bookB F.lets = true) => fontRun_any F C b c W hc (h.below hb) hk ho
  have HPl := Lib.hid fun D n cc l R' W (hb : Below w.heap.size w W) (hx : fixB x = true) (hy : fixB y = true) => place_any F C m x y D n cc l R' W (h.below hb) hx hy
  have HMy := Lib.hid fun W => matMay_any m W
  have HX := Lib.hid fun W => fontFix_any x W
  have HY := Lib.hid fun W => fontFix_any y W
  obtain ⟨ok, A, B, E, ca, cb, ce, rfl, h1, h2, h3⟩ := h
  rw [vm m]
  obtain ⟨w0, hw0⟩ : ∃ w0 : World, w0 = (w.alloc (.cells (foC F.m (.slice A F.names.length ca) (.slice B F.lets.length cb) (.slice E F.kern.length ce)).toArray 30)).alloc (.cells (mtC m).toArray 25) := ⟨_, rfl⟩
  have hB0 : Below w.heap.size w w0 := by rw [hw0]; exact bal (bal (Below.refl _ _) _) _
  have hA : BC w0 w.heap.size (foC F.m (.slice A F.names.length ca) (.slice B F.lets.length cb) (.slice E F.kern.length ce)) := by rw [hw0]; exact (BC.new _ 30 rfl).below (bal (Below.refl _ _) _)
  have hM : BC w0 (w.heap.size + 1) (mtC m) := by rw [hw0]; exact BC.new (w := w.alloc _) (mtC m) 25 (by simp)
  have HR := Lib.hid hR
  have HR2 : Hid (R = if (openB F && mtB m && fixB x && fixB y) then (if (runF F c).2 ≠ 0 then ([], (runF F c).2) else placeF F m x y (runF F c).1.1) else ([], 1)) := Lib.hid (by rw [← HR.out]; rfl)
  simp only [vm] at HMy HPl
  clear hR HR h1 h2 h3 ok
  go_enter Try.func14, Try.ntmps14
  go_upto_region 1 with (fail)
  rw [← hw0]
  clear hw0
  go_wp2_with (first
    | (refine wpList_load_rec rfl _ _ rfl w.heap.size rfl _ 9 foT hA rfl ?_)
    | fail)
  refine (HO.out _ hB0).mono ?_; rintro e w1 ⟨hb1, hcs⟩
  have B1 := btr hB0 hb1
  have hA1 := hA.below hb1
  have hM1 := hM.below hb1
  clear hA hM hb1 HO hB0
  rcases hcs with ⟨hf, rfl⟩ | ⟨hf, b, rfl, -, hbk⟩
  · have HE := Lib.hid (show R = ([], 1) by rw [HR2.out, hf]; rfl)
    clear HR2 hf
    go_wp2
    go_ret2
    rw [HE.out]
    exact ⟨B1, none, 0, rfl, Sl.nil_⟩
  have hbo : bookB F.lets = true := by rw [openB_eq] at hf; simp only [Bool.and_eq_true] at hf; exact hf.2
  rw [hf, Bool.true_and] at HR2
  clear hf
  go_wp2_with (first
    | (refine wpList_load_rec_g2 (by kernel_rfl) _ _ rfl (w.heap.size + 1) rfl _ 6 matT2 hM1 rfl ?_)
    | fail)
  refine (HMy.out _).mono ?_; rintro e w2 ⟨rfl, b2⟩
  have B2 := btr B1 b2
  have hA2 := hA1.below b2
  have hM2 := hM1.below b2
  have hbk2 := hbk.below b2
  clear hA1 hM1 b2 hbk B1
  cases hm : mtB m
  · have HE := Lib.hid (show R = ([], 1) by rw [HR2.out, hm]; rfl)
    clear HR2 hm
    go_wp2
    go_ret2
    rw [HE.out]
    exact ⟨B2, none, 0, rfl, Sl.nil_⟩
  rw [hm, Bool.true_and] at HR2
  clear hm
  go_wp2_with fail
  refine (HX.out _).mono ?_; rintro e w' ⟨rfl, rfl⟩
  cases hfx : fixB x
  · have HE := Lib.hid (show R = ([], 1) by rw [HR2.out, hfx]; rfl)
    clear HR2 hfx
    go_wp2
    go_ret2
    rw [HE.out]
    exact ⟨B2, none, 0, rfl, Sl.nil_⟩
  rw [hfx, Bool.true_and] at HR2
  go_wp2_with fail
  refine (HY.out _).mono ?_; rintro e w' ⟨rfl, rfl⟩
  cases hfy : fixB y
  · have HE := Lib.hid (show R = ([], 1) by rw [HR2.out, hfy]; rfl)
    clear HR2 hfy hfx
    go_wp2
    go_ret2
    rw [HE.out]
    exact ⟨B2, none, 0, rfl, Sl.nil_⟩
  rw [hfy, if_pos rfl] at HR2
  have HP2 := Lib.hid fun D n cc l R' W (hb : Below w.heap.size w W) => HPl.out D n cc l R' W hb hfx hfy
  have HU2 := Lib.hid (HU.out b w2 B2 hbk2 hbo)
  clear hfx hfy HPl HU hbo hbk2
  go_wp2_with (first
    | (refine wpList_load_rec rfl _ _ rfl w.heap.size rfl _ 9 foT hA2 rfl ?_)
    | fail)
  refine HU2.out.mono ?_; rintro e w3 ⟨b3, A3, c3, rfl, hs3, hm3, -, -⟩
  have B3 := btr B2 b3
  have hA3 := hA2.below b3
  have hM3 := hM2.below b3
  obtain ⟨⟨⟨L, wd⟩, er⟩, hG⟩ : ∃ G, runF F c = G := ⟨_, rfl⟩
  rw [hG] at HR2 hs3 hm3
  simp only [hG] at HR2 hs3 hm3 ⊢
  obtain ⟨n, hn⟩ : ∃ n, n = L.length := ⟨_, rfl⟩
  rw [← hn] at hs3 ⊢
  clear b3 hG hA2 hM2 HU2 hn B2
  by_cases he : er = 0
  · have HE := Lib.hid (show R = placeF F m x y L by rw [HR2.out, if_neg (by simpa using he)])
    have he' : (er != 0) = false := by simp [he]
    have HP3 := Lib.hid (HP2.out A3 n c3 L R w3 B3 hs3 hm3 HE.out.symm)
    clear HR2 he HE HP2 hs3 hm3
    go_wp2_with (first
      | (refine wpList_load_rec rfl _ _ rfl w.heap.size rfl _ 9 foT hA3 rfl ?_)
      | (refine wpList_load_rec rfl _ _ rfl (w.heap.size + 1) rfl _ 6 matT2 hM3 rfl ?_)
      | fail)
    refine HP3.out.mono ?_; rintro e w4 ⟨b4, A4, c4, rfl, ho4⟩
    go_wp2
    go_ret2
    exact ⟨btr B3 b4, A4, c4, rfl, own_sl ho4⟩
  · have HE := Lib.hid (show R = ([], er) by rw [HR2.out, if_pos (by simpa using he)])
    have he' : (er != 0) = true := by simp [he]
    clear HR2 he
    go_wp2
    go_ret2
    rw [HE.out]
    exact ⟨B3, none, 0, rfl, Sl.nil_⟩
end Go.Proofs.Ytaphmonpdnbiiaa
