/- font: kern, Kern. -/
import Derived.Test.YtdfkbbcoolgfiaaGreatMF1
import Derived.Test.YtdfkbbcoolgfiaaGreatAllP
import Derived.Test.YtdfkbbcoolgfiaaGreatMGl2
namespace Go.Proofs.YtdfkbbcoolgfiaaGreat
open Go.RowKit Go.Maps Go.BigFrame

theorem yieldsIf_rec {P : Program} {ops : Array Oper} {S : World → Prop} {op : Oper} {a : Act} (hw : Region.wanted op (yielded ops a.tmps) = true) (t : TypeId) (x : Operand) (ho : op.op = .load t x)
    (g : Nat) (hx : a.eval x = .pointer (some ⟨g, 0, none⟩)) (C : List Value) (n : Nat) (hT : RecT P t n) (hS : ∀ W, S W → BC W g C) (hn : C.length = n) : YieldsIf P ops S op (.agg C.toArray) a := by
  obtain ⟨d, hu, hd, hi⟩ := hT
  exact yieldsIf_load_mid hw t x ho g 0 hx C d (fun W hW => (hS W hW).range) hu hd (by rw [hi, hn])
theorem find_yes {α : Type} {f : α → Bool} {l : List α} {k : Nat} (hk : k < l.length) (h0 : (l.take k).find? f = none) (h : f l[k] = true) : l.find? f = some l[k] := by
  obtain ⟨x, hx⟩ : ∃ x, l[k] = x := ⟨_, rfl⟩
  have h1 : l.take k ++ x :: l.drop (k + 1) = l := by rw [← hx, List.getElem_cons_drop, List.take_append_drop]
  rw [hx] at h ⊢
  rw [← h1, List.find?_append, h0, List.find?_cons]
  simp [h]
theorem find_no {α : Type} {f : α → Bool} {l : List α} {k : Nat} (hk : k < l.length) (h0 : (l.take k).find? f = none) (h : f l[k] = false) : (l.take (k + 1)).find? f = none := by
  rw [List.take_succ_eq_append_getElem hk, List.find?_append, h0]; simp [h]
def prB (x y : ByteArray) (k : Pr) : Bool := decide (k.a = x) && decide (k.b = y)
set_option maxRecDepth 100000 in
set_option maxHeartbeats 2000000 in
theorem kern_any (F : Fo) (C : List Value) (a b : Nat) (w : World) (ha : a < 256) (hb : b < 256) (h : FoAt w F C) : Calls Tryz.prog 97 #[.agg C.toArray, .int .u8 a, .int .u8 b] w fun e w' => e = .returned (.int .i64 (kernF F a b)) ∧ Below w.heap.size w w' := by
  have hh := h
  obtain ⟨ok, A, B, E, ca, cb, ce, rfl, h1, h2, h3⟩ := h
  obtain ⟨w0, hw0⟩ : ∃ w0 : World, w0 = w.alloc (.cells (foC F.m (.slice A F.names.length ca) (.slice B F.lets.length cb) (.slice E F.kern.length ce)).toArray 56) := ⟨_, rfl⟩
  have hB0 : Below w.heap.size w w0 := by rw [hw0]; exact bal (Below.refl _ _) _
  have hA : BC w0 w.heap.size (foC F.m (.slice A F.names.length ca) (.slice B F.lets.length cb) (.slice E F.kern.length ce)) := by rw [hw0]; exact BC.new _ 56 rfl
  have hkl := ok.kl
  have hs3 := h3.below hB0
  have hFo : FoAt w F (foC F.m (.slice A F.names.length ca) (.slice B F.lets.length cb) (.slice E F.kern.length ce)) := hh
  have HN := Lib.hid fun (c : Nat) (hc : c < 256) W (hb : Below w0.heap.size w0 W) => name_any F _ c W hc (hFo.below (btr hB0 hb))
  clear hh hFo
  obtain ⟨n3, hn3⟩ : ∃ n, F.kern.length = n := ⟨_, rfl⟩
  have HN3 := Lib.hid hn3
  rw [hn3] at hkl hs3 hw0 hA HN
  rw [hn3]
  clear hn3 h1 h2 h3 ok
  obtain ⟨R, hR⟩ : ∃ R, kernF F a b = R := ⟨_, rfl⟩
  have HR := Lib.hid hR
  rw [hR]
  clear hR
  obtain ⟨sa, hsa⟩ : ∃ s, nameF F a = s := ⟨_, rfl⟩
  obtain ⟨sb, hsb⟩ : ∃ s, nameF F b = s := ⟨_, rfl⟩
  have HSA := Lib.hid hsa
  have HSB := Lib.hid hsb
  have HR2 : Hid (R = if sa.toList.isEmpty || sb.toList.isEmpty then 0 else ((F.kern.find? (prB sa sb)).map Pr.mv).getD 0) := Lib.hid (by rw [← HR.out, ← hsa, ← hsb, str_em, str_em]; rfl)
  have HNa := Lib.hid (HN.out a ha)
  have HNb := Lib.hid (HN.out b hb)
  rw [hsa] at HNa
  rw [hsb] at HNb
  clear hsa hsb HN ha hb HR
  have HA := Lib.hid fun (W : World) (hW : ∃ y : Grown w0, W = y.world) => (show BC W w.heap.size _ by obtain ⟨y, rfl⟩ := hW; exact hA.below y.below)
  go_enter Tryz.func97, Tryz.ntmps97
  go_upto_region 1 with (fail)
  rw [← hw0]
  clear hw0
  refine wp_region_ord (fun W => ∃ y : Grown w0, W = y.world) [] 8 (by kernel_rfl) (by kernel_rfl) ⟨⟨_, bdrew (Below.refl _ _)⟩, rfl⟩ ?_
  intro hS
  refine ord_take 0 rfl rfl (by kernel_rfl) (by kernel_rfl) (fun _ _ _ h => h) (yieldsIf_rec (by rfl) _ _ rfl _ rfl _ 9 foT HA.out rfl) hS ?_
  simp only [Act.put, List.setIfInBounds_toArray, List.set_cons_zero, List.set_cons_succ]
  refine ord_take (v := ?_) 1 rfl rfl (by kernel_rfl) (by kernel_rfl) (fun _ _ _ h => h) (Or.inl ⟨by rfl, ?_⟩) hS ?_
  rotate_left
  · rintro W ⟨y, rfl⟩
    go_simp
    (try with_reducible rfl)
  simp only [Act.put, List.setIfInBounds_toArray, List.set_cons_zero, List.set_cons_succ]
  refine ord_take 3 rfl rfl (by kernel_rfl) (by kernel_rfl) (fun _ _ _ h => h) (yieldsIf_rec (by rfl) _ _ rfl _ rfl _ 9 foT HA.out rfl) hS ?_
  simp only [Act.put, List.setIfInBounds_toArray, List.set_cons_zero, List.set_cons_succ]
  refine ord_take (v := ?_) 4 rfl rfl (by kernel_rfl) (by kernel_rfl) (fun _ _ _ h => h) (Or.inl ⟨by rfl, ?_⟩) hS ?_
  rotate_left
  · rintro W ⟨y, rfl⟩
    go_simp
    (try with_reducible rfl)
  simp only [Act.put, List.setIfInBounds_toArray, List.set_cons_zero, List.set_cons_succ]
  have HG := Lib.hid (fun (W : World) (hW : Below w0.heap.size w0 W) => (⟨⟨W, hW⟩, rfl⟩ : ∃ y : Grown w0, W = y.world))
  have HB := bdrew (Below.refl w0.heap.size w0)
  clear hS
  refine ord_one 2 rfl (by kernel_rfl) rfl ?_
  intro K hK
  go_simp
  refine (HNa.out _ HB).mono ?_; rintro e wn ⟨rfl, hbn⟩
  have Hn := btr HB hbn
  refine hK.out _ _ (HG.out _ Hn) ?_
  clear hK K HB hbn
  have HB := Hn
  clear Hn
  try simp only
  have hS := HG.out _ HB
  clear hS
  refine ord_one 5 rfl (by kernel_rfl) rfl ?_
  intro K hK
  go_simp
  refine (HNb.out _ HB).mono ?_; rintro e wn ⟨rfl, hbn⟩
  have Hn := btr HB hbn
  refine hK.out _ _ (HG.out _ Hn) ?_
  clear hK K HB hbn
  have HB := Hn
  clear Hn
  try simp only
  have hS := HG.out _ HB
  refine ord_take (v := ?_) 6 rfl rfl (by kernel_rfl) (by kernel_rfl) (fun _ _ _ h => h) (Or.inl ⟨by rfl, ?_⟩) hS ?_
  rotate_left
  · rintro W ⟨y, rfl⟩
    go_simp
    (try with_reducible rfl)
  simp only [Act.put, List.setIfInBounds_toArray, List.set_cons_zero, List.set_cons_succ]
  refine ord_take (v := ?_) 7 rfl rfl (by kernel_rfl) (by kernel_rfl) (fun _ _ _ h => h) (Or.inl ⟨by rfl, ?_⟩) hS ?_
  rotate_left
  · rintro W ⟨y, rfl⟩
    go_simp
    (try with_reducible rfl)
  simp only [Act.put, List.setIfInBounds_toArray, List.set_cons_zero, List.set_cons_succ]
  clear hS
  refine ⟨by kernel_rfl, ?_⟩
  refine NoPanic.normal ?_
  have hA1 := hA.below HB
  have B1 := btr hB0 HB
  replace hs3 := hs3.below HB
  have a8 := hA1.c 8 _ rfl
  clear HG HA hA HNa HNb hB0 HB
  cases ga : sa.toList.isEmpty
  · cases gb : sb.toList.isEmpty
    · have HE := Lib.hid (show R = ((F.kern.find? (prB sa sb)).map Pr.mv).getD 0 by rw [HR2.out, ga, gb]; rfl)
      clear HR2 HSA HSB
      go_wp2_with fail
      go_loopw [26] (fun i wr => ∃ k, k ≤ n3 ∧ i = .int .i64 (k : Int) ∧ Below wn.heap.size wn wr ∧ Hid ((F.kern.take k).find? (prB sa sb) = none)) (fun i _ => n3 - (intOf i).toNat)
      case atStart => exact ⟨0, by omega, rfl, Below.refl _ _, Lib.hid rfl⟩
      case round =>
        obtain ⟨wo, rfl⟩ : ∃ wo : World, wo = wr := ⟨_, rfl⟩
        obtain ⟨k, hk, rfl, hbr, hal⟩ := hrel
        by_cases hlt : k < n3
        · have hkk : k < F.kern.length := by rw [HN3.out]; exact hlt
          obtain ⟨b, off, rfl, hb, d0, d1, d2⟩ := (hs3.below hbr).pr k hlt hkk
          obtain ⟨x, hx⟩ : ∃ x, x = F.kern[k] := ⟨_, rfl⟩
          have hyes := find_yes (f := prB sa sb) hkk hal.out
          have hno := find_no (f := prB sa sb) hkk hal.out
          rw [← hx] at d0 d1 d2 hno hyes
          have HNO := Lib.hid hno
          have HYES := Lib.hid hyes
          clear hx hno hyes
          by_cases e1 : x.a = sa
          · by_cases e2 : x.b = sb
            · have HE2 := Lib.hid (show R = x.mv by rw [HE.out, HYES.out (by unfold prB; rw [decide_eq_true e1, decide_eq_true e2]; rfl)]; rfl)
              have e1' : (x.a.toList == sa.toList) = true := by rw [str_eq]; exact decide_eq_true e1
              have e2' : (x.b.toList == sb.toList) = true := by rw [str_eq]; exact decide_eq_true e2
              clear HNO HYES e1 e2 HE
              go_wp2
              go_ret
              exact ⟨by rw [HE2.out]; rfl, btr B1 (bal hbr _)⟩
            · have HF2 := Lib.hid (HNO.out (by unfold prB; rw [decide_eq_false e2, Bool.and_false]))
              have e1' : (x.a.toList == sa.toList) = true := by rw [str_eq]; exact decide_eq_true e1
              have e2' : (x.b.toList == sb.toList) = false := by rw [str_eq]; exact decide_eq_false e2
              clear HNO HYES e1 e2
              go_wp2_with fail
              go_roundw
              case rel => exact ⟨k + 1, by omega, by go_num, bal hbr _, HF2⟩
              case measure => simp [intOf]; omega
          · have HF2 := Lib.hid (HNO.out (by unfold prB; rw [decide_eq_false e1, Bool.false_and]))
            have e1' : (x.a.toList == sa.toList) = false := by rw [str_eq]; exact decide_eq_false e1
            clear HNO HYES e1
            go_wp2_with fail
            go_roundw
            case rel => exact ⟨k + 1, by omega, by go_num, bal hbr _, HF2⟩
            case measure => simp [intOf]; omega
        · obtain rfl : k = n3 := by omega
          have hall := hal.out
          rw [List.take_of_length_le (by rw [HN3.out]; omega)] at hall
          have HE2 := Lib.hid (show R = 0 by rw [HE.out, hall]; rfl)
          clear hall hal HE
          go_wp2
          go_ret
          exact ⟨by rw [HE2.out]; rfl, btr B1 hbr⟩
    · have HE := Lib.hid (show R = 0 by rw [HR2.out, gb, Bool.or_true]; rfl)
      clear HR2
      go_wp2
      go_ret
      exact ⟨by rw [HE.out]; rfl, B1⟩
  · have HE := Lib.hid (show R = 0 by rw [HR2.out, ga]; rfl)
    clear HR2
    go_wp2
    go_ret
    exact ⟨by rw [HE.out]; rfl, B1⟩
end Go.Proofs.YtdfkbbcoolgfiaaGreat

namespace Go.Proofs.YtdfkbbcoolgfiaaGreat
open Go.RowKit Go.Maps Go.BigFrame

theorem name_size {F : Fo} (ok : FoOK F) (c : Nat) : (nameF F c).size ≤ 9223372036854775807 := by
  unfold nameF
  rw [List.getD_eq_getElem?_getD]
  cases h : F.names[c]? with
  | none => show ByteArray.empty.size ≤ _; decide
  | some s => exact ok.ns s (List.mem_of_getElem? h)
theorem Run_is2 {p : ByteArray} {L : List Sg} {wd er : Int} {n : Nat} (w : World) (hp : p.size ≤ 1000000) (hr : RunG (bl p) = ((L, wd), er)) (hn : L.length = n) :
    Calls Tryz.prog 137 #[.string p] w fun e w' => ∃ (A : Option Addr) (c : Nat), e = .returned (.tuple #[.slice A n c, .int .i64 wd, .int .i64 er]) ∧ Sl w' 5 A n (sgs L) ∧ Below w.heap.size w w' ∧ (mayB L = true ∧ 0 ≤ wd ∧ wd ≤ 8191) ∧ n ≤ c := by
  refine (Run_any p w hp).mono ?_; rintro e w' ⟨L', wd', er', A, n', c, rfl, hr', hn', _, hnc, hs, hm, hb⟩
  rw [hr] at hr'
  simp only [Prod.mk.injEq] at hr'
  obtain ⟨⟨rfl, rfl⟩, rfl⟩ := hr'
  rw [hn] at hn'
  subst hn'
  exact ⟨A, c, rfl, hs, hb, hm, hnc⟩
set_option maxRecDepth 100000 in
set_option maxHeartbeats 2000000 in
theorem fontRun_any (F : Fo) (C : List Value) (b c : Nat) (w : World) (hc : c < 256) (h : FoAt w F C) (hbk : BookAt w b F.lets) (hok : bookB F.lets = true) :
    Calls Tryz.prog 94 #[.agg C.toArray, .map (some b), .int .u8 c] w fun e w' => Below w.heap.size w w' ∧ ∃ A' c', e = .returned (.tuple #[.slice A' (runF F c).1.1.length c', .int .i64 (runF F c).1.2, .int .i64 (runF F c).2]) ∧
      Sl w' 5 A' (runF F c).1.1.length (sgs (runF F c).1.1) ∧ mayB (runF F c).1.1 = true ∧ (0 ≤ (runF F c).1.2 ∧ (runF F c).1.2 ≤ 8191) ∧ (runF F c).1.1.length ≤ c' := by
  have HN := Lib.hid fun W (hb : Below w.heap.size w W) => name_any F C c W hc (h.below hb)
  have hns := name_size h.ok c
  obtain ⟨ok, A, B, E, ca, cb, ce, rfl, h1, h2, h3⟩ := h
  obtain ⟨w0, hw0⟩ : ∃ w0 : World, w0 = w.alloc (.cells (foC F.m (.slice A F.names.length ca) (.slice B F.lets.length cb) (.slice E F.kern.length ce)).toArray 56) := ⟨_, rfl⟩
  have hB0 : Below w.heap.size w w0 := by rw [hw0]; exact bal (Below.refl _ _) _
  have hA : BC w0 w.heap.size (foC F.m (.slice A F.names.length ca) (.slice B F.lets.length cb) (.slice E F.kern.length ce)) := by rw [hw0]; exact BC.new _ 56 rfl
  obtain ⟨R, hR⟩ : ∃ R, runF F c = R := ⟨_, rfl⟩
  have HR := Lib.hid hR
  rw [hR]
  obtain ⟨s, hs⟩ : ∃ s, nameF F c = s := ⟨_, rfl⟩
  have HR2 : Hid (R = match letF F s with | none => (([], 0), 16) | some x => if (RunG (bl x.prog)).2 = 0 then RunG (bl x.prog) else (([], 0), 16)) := Lib.hid (by rw [← HR.out, ← hs]; rfl)
  rw [hs] at HN hns
  obtain ⟨y, hy⟩ : ∃ y, letF F s = y := ⟨_, rfl⟩
  have hy2 : ((F.lets.take F.lets.length).find? fun x => decide (x.name = s)) = y := by rw [List.take_length]; exact hy
  have hD : ∀ W, Below w.heap.size w W → W.ownsMap Tryz.prog 9 leR b 100000 (bookD (F.lets.take F.lets.length)) := fun W hb => by rw [List.take_length]; exact hbk.below hb
  have HD := Lib.hid hD
  rw [hy] at HR2
  have hmem : ∀ x, y = some x → x ∈ F.lets := fun x hx => by rw [hx] at hy; exact List.mem_of_find?_eq_some hy
  have HM := Lib.hid hmem
  have hlen := Nat.le_refl F.lets.length
  clear hR HR hs hy h1 h2 h3 ok hbk hD hmem
  go_enter Tryz.func94, Tryz.ntmps94
  go_upto_region 1 with (fail)
  rw [← hw0]
  clear hw0
  go_wp2_with (first
    | (refine wpList_load_rec rfl _ _ rfl w.heap.size rfl _ 9 foT hA rfl ?_)
    | fail)
  refine (HN.out _ hB0).mono ?_; rintro e w1 ⟨rfl, hb1⟩
  have B1 := btr hB0 hb1
  have hD1 := HD.out _ B1
  clear hb1 hA HN HD
  cases y with
  | none =>
    have HE := Lib.hid (show R = (([], 0), 16) from HR2.out)
    clear HR2
    go_wp2_with (first
      | (at_lookup; refine wpList_book rfl _ _ rfl b 100000 F.lets.length F.lets rfl hD1 hlen hok s rfl hns _ hy2 ?_)
      | fail)
    go_ret3
    rw [HE.out]
    exact ⟨bal B1 _, none, 0, rfl, Sl.nil_, rfl, ⟨Int.le_refl 0, by simp⟩, Nat.le_refl _⟩
  | some x =>
    have hz : x.prog.size ≤ 1000000 := by have := book_prog hok (HM.out x rfl); omega
    obtain ⟨⟨⟨L, wd⟩, er⟩, hG⟩ : ∃ G, RunG (bl x.prog) = G := ⟨_, rfl⟩
    obtain ⟨n, hn⟩ : ∃ n, L.length = n := ⟨_, rfl⟩
    have HRun := Lib.hid fun W => Run_is2 (p := x.prog) (n := n) W hz hG hn
    have HR3 := Lib.hid (show R = if er = 0 then ((L, wd), er) else (([], 0), 16) by rw [HR2.out]; simp only [hG])
    have HNn := Lib.hid hn
    clear HR2 hG hz hn
    go_wp2_with (first
      | (at_lookup; refine wpList_book rfl _ _ rfl b 100000 F.lets.length F.lets rfl hD1 hlen hok s rfl hns _ hy2 ?_)
      | fail)
    refine (HRun.out _).mono ?_; rintro e w2 ⟨A2, c2, rfl, hs2, hb2, hm2, hnc2⟩
    have B2 := btr (bal B1 _) hb2
    have HM2 := Lib.hid hm2
    clear hm2
    clear hb2 HRun
    by_cases he : er = 0
    · have HE := Lib.hid (show R = ((L, wd), er) by rw [HR3.out, if_pos he])
      have he' : (er != 0) = false := by simp [he]
      have HE0 := Lib.hid he
      clear HR3 he
      go_wp2
      go_ret3
      rw [HE.out]
      simp only
      rw [HNn.out, HE0.out]
      exact ⟨B2, A2, c2, rfl, hs2, HM2.out.1, HM2.out.2, hnc2⟩
    · have HE := Lib.hid (show R = (([], 0), 16) by rw [HR3.out, if_neg he])
      have he' : (er != 0) = true := by simp [he]
      clear HR3 he
      go_wp2
      go_ret3
      rw [HE.out]
      exact ⟨B2, none, 0, rfl, Sl.nil_, rfl, ⟨Int.le_refl 0, by simp⟩, Nat.le_refl _⟩
end Go.Proofs.YtdfkbbcoolgfiaaGreat
