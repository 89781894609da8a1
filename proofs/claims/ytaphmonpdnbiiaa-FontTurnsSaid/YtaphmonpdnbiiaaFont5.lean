/- font: run, Wide. -/
import Derived.Test.YtaphmonpdnbiiaaFont4
import Derived.Test.YtaphmonpdnbiiaaMGl2
namespace Go.Proofs.Ytaphmonpdnbiiaa
open Go.RowKit Go.Maps Go.BigFrame

theorem name_size {F : Fo} (ok : FoOK F) (c : Nat) : (nameF F c).size ≤ 9223372036854775807 := by
  unfold nameF
  rw [List.getD_eq_getElem?_getD]
  cases h : F.names[c]? with
  | none => show ByteArray.empty.size ≤ _; decide
  | some s => exact ok.ns s (List.mem_of_getElem? h)
theorem Run_is2 {p : ByteArray} {L : List Sg} {wd er : Int} {n : Nat} (w : World) (hp : p.size ≤ 1000000) (hr : RunG (bl p) = ((L, wd), er)) (hn : L.length = n) :
    Calls Try.prog 37 #[.string p] w fun e w' => ∃ (A : Option Addr) (c : Nat), e = .returned (.tuple #[.slice A n c, .int .i64 wd, .int .i64 er]) ∧ Sl w' 5 A n (sgs L) ∧ Below w.heap.size w w' ∧ (mayB L = true ∧ 0 ≤ wd ∧ wd ≤ 8191) ∧ n ≤ c := by
  refine (Run_any p w hp).mono ?_; rintro e w' ⟨L', wd', er', A, n', c, rfl, hr', hn', _, hnc, hs, hm, hb⟩
  rw [hr] at hr'
  simp only [Prod.mk.injEq] at hr'
  obtain ⟨⟨rfl, rfl⟩, rfl⟩ := hr'
  rw [hn] at hn'
  subst hn'
  exact ⟨A, c, rfl, hs, hb, hm, hnc⟩
set_option maxRecDepth 100000 in
set_option maxHeartbeats 2000000 in
theorem fontRun_any (F : Fo) (C : List Value) (b c : Nat) (w : World) (hc : c < 256) (h : FoAt w F C) (hbk : BookAt w b F.lets) (hok : bookB F.lets = true) :
    Calls Try.prog 24 #[.agg C.toArray, .map (some b), .int .u8 c] w fun e w' => Below w.heap.size w w' ∧ ∃ A' c', e = .returned (.tuple #[.slice A' (runF F c).1.1.length c', .int .i64 (runF F c).1.2, .int .i64 (runF F c).2]) ∧
      Sl w' 5 A' (runF F c).1.1.length (sgs (runF F c).1.1) ∧ mayB (runF F c).1.1 = true ∧ (0 ≤ (runF F c).1.2 ∧ (runF F c).1.2 ≤ 8191) ∧ (runF F c).1.1.length ≤ c' := by
  have HN := Lib.hid fun W (hb : Below w.heap.size w W) => name_any F C c W hc (h.below hb)
  have hns := name_size h.ok c
  have hls := h.ok.ls
  obtain ⟨ok, A, B, E, ca, cb, ce, rfl, h1, h2, h3⟩ := h
  obtain ⟨w0, hw0⟩ : ∃ w0 : World, w0 = w.alloc (.cells (foC F.m (.slice A F.names.length ca) (.slice B F.lets.length cb) (.slice E F.kern.length ce)).toArray 30) := ⟨_, rfl⟩
  have hB0 : Below w.heap.size w w0 := by rw [hw0]; exact bal (Below.refl _ _) _
  have hA : BC w0 w.heap.size (foC F.m (.slice A F.names.length ca) (.slice B F.lets.length cb) (.slice E F.kern.length ce)) := by rw [hw0]; exact BC.new _ 30 rfl
  obtain ⟨R, hR⟩ : ∃ R, runF F c = R := ⟨_, rfl⟩
  have HR := Lib.hid hR
  rw [hR]
  obtain ⟨s, hs⟩ : ∃ s, nameF F c = s := ⟨_, rfl⟩
  have HR2 : Hid (R = match letF F s with | none => (([], 0), 16) | some x => if (RunG (bl x.prog)).2 = 0 then RunG (bl x.prog) else (([], 0), 16)) := Lib.hid (by rw [← HR.out, ← hs]; rfl)
  rw [hs] at HN hns
  obtain ⟨y, hy⟩ : ∃ y, letF F s = y := ⟨_, rfl⟩
  have hy2 : ((F.lets.take F.lets.length).find? fun x => decide (x.name = s)) = y := by rw [List.take_length]; exact hy
  have hD : ∀ W, Below w.heap.size w W → W.ownsMap Try.prog 9 leR b 100000 (bookD (F.lets.take F.lets.length)) := fun W hb => by rw [List.take_length]; exact hbk.below hb
  have HD := Lib.hid hD
  rw [hy] at HR2
  have hmem : ∀ x, y = some x → x ∈ F.lets := fun x hx => by rw [hx] at hy; exact List.mem_of_find?_eq_some hy
  have HM := Lib.hid hmem
  have hlen := Nat.le_refl F.lets.length
  clear hR HR hs hy h1 h2 h3 ok hbk hD hmem
  go_enter Try.func24, Try.ntmps24
  go_upto_region 1 with (fail)
  rw [← hw0]
  clear hw0
  go_wp2_with (first
    | (refine wpList_load_rec rfl _ _ rfl w.heap.size rfl _ 9 foT hA rfl ?_)
    | fail)
  refine (HN.out _ hB0).mono ?_; rintro e w1 ⟨rfl, hb1⟩
  have B1 := btr hB0 hb1
  have hD1 := HD.out _ B1
  clear hb1 hA HN HD
  cases y with
  | none =>
    have HE := Lib.hid (show R = (([], 0), 16) from HR2.out)
    clear HR2
    go_wp2_with (first
      | (at_lookup; refine wpList_book rfl _ _ rfl b 100000 F.lets.length F.lets rfl hD1 hlen hok s rfl hns _ hy2 ?_)
      | fail)
    go_ret3
    rw [HE.out]
    exact ⟨bal B1 _, none, 0, rfl, Sl.nil_, rfl, ⟨Int.le_refl 0, by simp⟩, Nat.le_refl _⟩
  | some x =>
    have hz := hls x (HM.out x rfl)
    obtain ⟨⟨⟨L, wd⟩, er⟩, hG⟩ : ∃ G, RunG (bl x.prog) = G := ⟨_, rfl⟩
    obtain ⟨n, hn⟩ : ∃ n, L.length = n := ⟨_, rfl⟩
    have HRun := Lib.hid fun W => Run_is2 (p := x.prog) (n := n) W hz.2 hG hn
    have HR3 := Lib.hid (show R = if er = 0 then ((L, wd), er) else (([], 0), 16) by rw [HR2.out]; simp only [hG])
    have HNn := Lib.hid hn
    clear HR2 hG hz hls hn
    go_wp2_with (first
      | (at_lookup; refine wpList_book rfl _ _ rfl b 100000 F.lets.length F.lets rfl hD1 hlen hok s rfl hns _ hy2 ?_)
      | fail)
    refine (HRun.out _).mono ?_; rintro e w2 ⟨A2, c2, rfl, hs2, hb2, hm2, hnc2⟩
    have B2 := btr (bal B1 _) hb2
    have HM2 := Lib.hid hm2
    clear hm2
    clear hb2 HRun
    by_cases he : er = 0
    · have HE := Lib.hid (show R = ((L, wd), er) by rw [HR3.out, if_pos he])
      have he' : (er != 0) = false := by simp [he]
      have HE0 := Lib.hid he
      clear HR3 he
      go_wp2
      go_ret3
      rw [HE.out]
      simp only
      rw [HNn.out, HE0.out]
      exact ⟨B2, A2, c2, rfl, hs2, HM2.out.1, HM2.out.2, hnc2⟩
    · have HE := Lib.hid (show R = (([], 0), 16) by rw [HR3.out, if_neg he])
      have he' : (er != 0) = true := by simp [he]
      clear HR3 he
      go_wp2
      go_ret3
      rw [HE.out]
      exact ⟨B2, none, 0, rfl, Sl.nil_, rfl, ⟨Int.le_refl 0, by simp⟩, Nat.le_refl _⟩
set_option maxRecDepth 100000 in
set_option maxHeartbeats 2000000 in
theorem fontWide_any (F : Fo) (C : List Value) (c : Nat) (w : World) (hc : c < 256) (h : FoAt w F C) :
    Calls Try.prog 13 #[.agg C.toArray, .int .u8 c] w fun e w' => e = .returned (.tuple #[.int .i64 (wideF F c).1, .int .i64 (wideF F c).2]) ∧ Below w.heap.size w w' := by
  have HO := Lib.hid fun W (hb : Below w.heap.size w W) => open_any F C W (h.below hb)
  have HU := Lib.hid fun b W (hb : Below w.heap.size w W) (hk : BookAt W b F.lets) (ho : bookB F.lets = true) => fontRun_any F C b c W hc (h.below hb) hk ho
  obtain ⟨⟨wd, er⟩, hR⟩ : ∃ R, wideF F c = R := ⟨_, rfl⟩
  have HR := Lib.hid hR
  rw [hR]
  simp only
  obtain ⟨ok, A, B, E, ca, cb, ce, rfl, h1, h2, h3⟩ := h
  obtain ⟨w0, hw0⟩ : ∃ w0 : World, w0 = w.alloc (.cells (foC F.m (.slice A F.names.length ca) (.slice B F.lets.length cb) (.slice E F.kern.length ce)).toArray 30) := ⟨_, rfl⟩
  have hB0 : Below w.heap.size w w0 := by rw [hw0]; exact bal (Below.refl _ _) _
  have hA : BC w0 w.heap.size (foC F.m (.slice A F.names.length ca) (.slice B F.lets.length cb) (.slice E F.kern.length ce)) := by rw [hw0]; exact BC.new _ 30 rfl
  clear h1 h2 h3 ok hR
  go_enter Try.func13, Try.ntmps13
  go_upto_region 1 with (fail)
  rw [← hw0]
  clear hw0
  go_wp2_with (first
    | (refine wpList_load_rec rfl _ _ rfl w.heap.size rfl _ 9 foT hA rfl ?_)
    | fail)
  refine (HO.out _ hB0).mono ?_; rintro e w1 ⟨hb1, hcs⟩
  have B1 := btr hB0 hb1
  have hA1 := hA.below hb1
  clear hA hb1
  rcases hcs with ⟨hf, rfl⟩ | ⟨hf, b, rfl, -, hbk⟩
  · have HE := Lib.hid (show wd = 0 ∧ er = 1 by have := HR.out; unfold wideF at this; rw [hf] at this; simp only [Bool.false_eq_true, if_false, Prod.mk.injEq] at this; exact ⟨this.1.symm, this.2.symm⟩)
    clear HR hf
    go_wp2
    go_ret2
    rw [HE.out.1, HE.out.2]
    exact ⟨rfl, B1⟩
  · have HE := Lib.hid (show wd = (runF F c).1.2 ∧ er = (runF F c).2 by have := HR.out; unfold wideF at this; rw [hf] at this; simp only [if_true, Prod.mk.injEq] at this; exact ⟨this.1.symm, this.2.symm⟩)
    have hbo : bookB F.lets = true := by rw [openB_eq] at hf; simp only [Bool.and_eq_true] at hf; exact hf.2
    have HU1 := Lib.hid (HU.out b w1 B1 hbk hbo)
    clear HR hf hbk hbo HU HO
    go_wp2_with (first
      | (refine wpList_load_rec rfl _ _ rfl w.heap.size rfl _ 9 foT hA1 rfl ?_)
      | fail)
    refine HU1.out.mono ?_; rintro e w2 ⟨hb2, A2, c2, rfl, hs2, -⟩
    have B2 := btr B1 hb2
    clear hs2 hb2
    go_wp2
    go_ret2
    rw [HE.out.1, HE.out.2]
    exact ⟨rfl, B2⟩
end Go.Proofs.Ytaphmonpdnbiiaa
