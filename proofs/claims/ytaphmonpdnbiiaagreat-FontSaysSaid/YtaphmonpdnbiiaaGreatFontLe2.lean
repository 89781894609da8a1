/- font.Letter. -/
import Derived.Test.YtaphmonpdnbiiaaGreatFontLe
import Derived.Test.YtaphmonpdnbiiaaGreatFRef1
import Derived.Test.YtaphmonpdnbiiaaGreatMF2
namespace Go.Proofs.YtaphmonpdnbiiaaGreat
open Go.RowKit Go.Maps Go.BigFrame


set_option maxRecDepth 100000 in
set_option maxHeartbeats 2000000 in
theorem fontLetter_any (F : Fo) (C : List Value) (c : Nat) (w : World) (hc : c < 256) (h : FoAt w F C) : Calls Tryz.prog 16 #[.agg C.toArray, .int .u8 c] w fun e w' => e = .returned (letV (letterF F c)) ∧ Below w.heap.size w w' := by
  have HO := Lib.hid fun W (hb : Below w.heap.size w W) => open_any F C W (h.below hb)
  have HN := Lib.hid fun W (hb : Below w.heap.size w W) => name_any F C c W hc (h.below hb)
  have hns := name_size h.ok c
  obtain ⟨ok, A, B, E, ca, cb, ce, rfl, h1, h2, h3⟩ := h
  obtain ⟨w0, hw0⟩ : ∃ w0 : World, w0 = (w.alloc (.cells (foC F.m (.slice A F.names.length ca) (.slice B F.lets.length cb) (.slice E F.kern.length ce)).toArray 30)).alloc (.cells #[.string { data := #[] }, .string { data := #[] }] 48) := ⟨_, rfl⟩
  have hB0 : Below w.heap.size w w0 := by rw [hw0]; exact bal (bal (Below.refl _ _) _) _
  have hA : BC w0 w.heap.size (foC F.m (.slice A F.names.length ca) (.slice B F.lets.length cb) (.slice E F.kern.length ce)) := by rw [hw0]; exact (BC.new _ 30 rfl).below (bal (Below.refl _ _) _)
  have hZ : BC w0 (w.heap.size + 1) (lec le0) := by rw [hw0]; exact BC.new (w := w.alloc _) (lec le0) 48 (by simp)
  obtain ⟨Y, hY⟩ : ∃ Y, letterF F c = Y := ⟨_, rfl⟩
  have HY := Lib.hid hY
  rw [hY, letV_eq]
  obtain ⟨s, hs⟩ : ∃ s, nameF F c = s := ⟨_, rfl⟩
  have HS := Lib.hid hs
  rw [hs] at HN hns
  clear h1 h2 h3 ok hY hs
  go_enter Tryz.func16, Tryz.ntmps16
  go_upto_region 1 with (fail)
  rw [← hw0]
  clear hw0
  go_wp2_with (first
    | (refine wpList_load_rec rfl _ _ rfl w.heap.size rfl _ 9 foT hA rfl ?_)
    | fail)
  refine (HO.out _ hB0).mono ?_; rintro e w1 ⟨hb1, hcs⟩
  have B1 := btr hB0 hb1
  have hA1 := hA.below hb1
  have hZ1 := hZ.below hb1
  clear hA hZ hb1 HO hB0
  rcases hcs with ⟨hf, rfl⟩ | ⟨hf, b, rfl, -, hbk⟩
  · have HE := Lib.hid (show Y = none by rw [← HY.out]; exact letterF_shut hf)
    have hF := hZ1.putAll (lec le0) rfl
    have hFB := below_setCells (show w.heap.size ≤ w.heap.size + 1 by omega) (lec le0) 0 _ B1
    go_wp2_with (first
      | (refine wpList_store_rec rfl _ _ _ rfl (w.heap.size + 1) (lec le0) _ rfl rfl 2 letT hZ1 rfl rfl (lec_one _) ?_)
      | fail)
    refine bodyPost_ret (result_rec rfl rfl rfl letT hF rfl) rfl ?_
    rw [HE.out]
    exact ⟨rfl, hFB⟩
  have hok : bookB F.lets = true := by rw [openB_eq] at hf; simp only [Bool.and_eq_true] at hf; exact hf.2
  have hy2 : ((F.lets.take F.lets.length).find? fun x => decide (x.name = s)) = Y := by rw [List.take_length, ← HS.out, ← letterF_yes hf]; exact HY.out
  have hlen := Nat.le_refl F.lets.length
  have HD := Lib.hid fun W (hb : Below w1.heap.size w1 W) => (show W.ownsMap Tryz.prog 9 leR b 100000 (bookD (F.lets.take F.lets.length)) by rw [List.take_length]; exact hbk.below hb)
  clear hbk hf
  go_wp2_with (first
    | (refine wpList_load_rec rfl _ _ rfl w.heap.size rfl _ 9 foT hA1 rfl ?_)
    | fail)
  refine (HN.out _ B1).mono ?_; rintro e w2 ⟨rfl, hb2⟩
  have hD1 := HD.out _ hb2
  have B2 := btr B1 hb2
  have hZ2 := hZ1.below hb2
  have hsz2 := hZ2.lt
  clear hA1 hZ1 hb2 HN HD HY HS
  cases Y with
  | none =>
    have hb3 := bal (Below.refl w2.heap.size w2) (.cells #[.string (le0).name, .string (le0).prog] 48)
    have hZ3 := hZ2.below hb3
    have hF := hZ3.putAll (lec le0) rfl
    have hFB := below_setCells (show w.heap.size ≤ w.heap.size + 1 by omega) (lec le0) 0 _ (btr B2 hb3)
    go_wp2_with (first
      | (at_lookup; refine wpList_book rfl _ _ rfl b 100000 F.lets.length F.lets rfl hD1 hlen hok s rfl hns _ hy2 ?_)
      | (refine wpList_store_rec rfl _ _ _ rfl (w.heap.size + 1) (lec le0) _ rfl rfl 2 letT hZ3 rfl rfl (lec_one _) ?_)
      | fail)
    refine bodyPost_ret (result_rec rfl rfl rfl letT hF rfl) rfl ?_
    exact ⟨rfl, hFB⟩
  | some x =>
    have hb3 := bal (Below.refl w2.heap.size w2) (.cells #[.string (x).name, .string (x).prog] 48)
    have hZ3 := hZ2.below hb3
    have hF := hZ3.putAll (lec x) rfl
    have hFB := below_setCells (show w.heap.size ≤ w.heap.size + 1 by omega) (lec x) 0 _ (btr B2 hb3)
    go_wp2_with (first
      | (at_lookup; refine wpList_book rfl _ _ rfl b 100000 F.lets.length F.lets rfl hD1 hlen hok s rfl hns _ hy2 ?_)
      | (refine wpList_store_rec rfl _ _ _ rfl (w.heap.size + 1) (lec x) _ rfl rfl 2 letT hZ3 rfl rfl (lec_one _) ?_)
      | fail)
    refine bodyPost_ret (result_rec rfl rfl rfl letT hF rfl) rfl ?_
    exact ⟨rfl, hFB⟩
end Go.Proofs.YtaphmonpdnbiiaaGreat
