/- font: kern, Kern. -/
import Derived.Test.YtaphmonpdnbiiaaMF1
import Derived.Test.YtaphmonpdnbiiaaAllP
namespace Go.Proofs.Ytaphmonpdnbiiaa
open Go.RowKit Go.Maps Go.BigFrame

theorem yieldsIf_rec {P : Program} {ops : Array Oper} {S : World → Prop} {op : Oper} {a : Act} (hw : Region.wanted op (yielded ops a.tmps) = true) (t : TypeId) (x : Operand) (ho : op.op = .load t x)
    (g : Nat) (hx : a.eval x = .pointer (some ⟨g, 0, none⟩)) (C : List Value) (n : Nat) (hT : RecT P t n) (hS : ∀ W, S W → BC W g C) (hn : C.length = n) : YieldsIf P ops S op (.agg C.toArray) a := by
  obtain ⟨d, hu, hd, hi⟩ := hT
  exact yieldsIf_load_mid hw t x ho g 0 hx C d (fun W hW => (hS W hW).range) hu hd (by rw [hi, hn])
theorem find_yes {α : Type} {f : α → Bool} {l : List α} {k : Nat} (hk : k < l.length) (h0 : (l.take k).find? f = none) (h : f l[k] = true) : l.find? f = some l[k] := by
  obtain ⟨x, hx⟩ : ∃ x, l[k] = x := ⟨_, rfl⟩
  have h1 : l.take k ++ x :: l.drop (k + 1) = l := by rw [← hx, List.getElem_cons_drop, List.take_append_drop]
  rw [hx] at h ⊢
  rw [← h1, List.find?_append, h0, List.find?_cons]
  simp [h]
theorem find_no {α : Type} {f : α → Bool} {l : List α} {k : Nat} (hk : k < l.length) (h0 : (l.take k).find? f = none) (h : f l[k] = false) : (l.take (k + 1)).find? f = none := by
  rw [List.take_succ_eq_append_getElem hk, List.find?_append, h0]; simp [h]
def prB (x y : ByteArray) (k : Pr) : Bool := decide (k.a = x) && decide (k.b = y)
set_option maxRecDepth 100000 in
set_option maxHeartbeats 2000000 in
theorem kern_any (F : Fo) (C : List Value) (a b : Nat) (w : World) (ha : a < 256) (hb : b < 256) (h : FoAt w F C) : Calls Try.prog 27 #[.agg C.toArray, .int .u8 a, .int .u8 b] w fun e w' => e = .returned (.int .i64 (kernF F a b)) ∧ Below w.heap.size w w' := by
  have hh := h
  obtain ⟨ok, A, B, E, ca, cb, ce, rfl, h1, h2, h3⟩ := h
  obtain ⟨w0, hw0⟩ : ∃ w0 : World, w0 = w.alloc (.cells (foC F.m (.slice A F.names.length ca) (.slice B F.lets.length cb) (.slice E F.kern.length ce)).toArray 30) := ⟨_, rfl⟩
  have hB0 : Below w.heap.size w w0 := by rw [hw0]; exact bal (Below.refl _ _) _
  have hA : BC w0 w.heap.size (foC F.m (.slice A F.names.length ca) (.slice B F.lets.length cb) (.slice E F.kern.length ce)) := by rw [hw0]; exact BC.new _ 30 rfl
  have hkl := ok.kl
  have hs3 := h3.below hB0
  have hFo : FoAt w F (foC F.m (.slice A F.names.length ca) (.slice B F.lets.length cb) (.slice E F.kern.length ce)) := hh
  have HN := Lib.hid fun (c : Nat) (hc : c < 256) W (hb : Below w0.heap.size w0 W) => name_any F _ c W hc (hFo.below (btr hB0 hb))
  clear hh hFo
  obtain ⟨n3, hn3⟩ : ∃ n, F.kern.length = n := ⟨_, rfl⟩
  have HN3 := Lib.hid hn3
  rw [hn3] at hkl hs3 hw0 hA HN
  rw [hn3]
  clear hn3 h1 h2 h3 ok
  obtain ⟨R, hR⟩ : ∃ R, kernF F a b = R := ⟨_, rfl⟩
  have HR := Lib.hid hR
  rw [hR]
  clear hR
  obtain ⟨sa, hsa⟩ : ∃ s, nameF F a = s := ⟨_, rfl⟩
  obtain ⟨sb, hsb⟩ : ∃ s, nameF F b = s := ⟨_, rfl⟩
  have HSA := Lib.hid hsa
  have HSB := Lib.hid hsb
  have HR2 : Hid (R = if sa.toList.isEmpty || sb.toList.isEmpty then 0 else ((F.kern.find? (prB sa sb)).map Pr.mv).getD 0) := Lib.hid (by rw [← HR.out, ← hsa, ← hsb, str_em, str_em]; rfl)
  have HNa := Lib.hid (HN.out a ha)
  have HNb := Lib.hid (HN.out b hb)
  rw [hsa] at HNa
  rw [hsb] at HNb
  clear hsa hsb HN ha hb HR
  have HA := Lib.hid fun (W : World) (hW : ∃ y : Grown w0, W = y.world) => (show BC W w.heap.size _ by obtain ⟨y, rfl⟩ := hW; exact hA.below y.below)
  go_enter Try.func27, Try.ntmps27
  go_upto_region 1 with (fail)
  rw [← hw0]
  clear hw0
  refine wp_region_ord (fun W => ∃ y : Grown w0, W = y.world) [] 8 (by kernel_rfl) (by kernel_rfl) ⟨⟨_, bdrew (Below.refl _ _)⟩, rfl⟩ ?_
  intro hS
  refine ord_take 0 rfl rfl (by kernel_rfl) (by kernel_rfl) (fun _ _ _ h => h) (yieldsIf_rec (by rfl) _ _ rfl _ rfl _ 9 foT HA.out rfl) hS ?_
  simp only [Act.put, List.setIfInBounds_toArray, List.set_cons_zero, List.set_cons_succ]
  refine ord_take (v := ?_) 1 rfl rfl (by kernel_rfl) (by kernel_rfl) (fun _ _ _ h => h) (Or.inl ⟨by rfl, ?_⟩) hS ?_
  rotate_left
  · rintro W ⟨y, rfl⟩
    go_simp
    (try with_reducible rfl)
  simp only [Act.put, List.setIfInBounds_toArray, List.set_cons_zero, List.set_cons_succ]
  refine ord_take 3 rfl rfl (by kernel_rfl) (by kernel_rfl) (fun _ _ _ h => h) (yieldsIf_rec (by rfl) _ _ rfl _ rfl _ 9 foT HA.out rfl) hS ?_
  simp only [Act.put, List.setIfInBounds_toArray, List.set_cons_zero, List.set_cons_succ]
  refine ord_take (v := ?_) 4 rfl rfl (by kernel_rfl) (by kernel_rfl) (fun _ _ _ h => h) (Or.inl ⟨by rfl, ?_⟩) hS ?_
  rotate_left
  · rintro W ⟨y, rfl⟩
    go_simp
    (try with_reducible rfl)
  simp only [Act.put, List.setIfInBounds_toArray, List.set_cons_zero, List.set_cons_succ]
  have HG := Lib.hid (fun (W : World) (hW : Below w0.heap.size w0 W) => (⟨⟨W, hW⟩, rfl⟩ : ∃ y : Grown w0, W = y.world))
  have HB := bdrew (Below.refl w0.heap.size w0)
  clear hS
  refine ord_one 2 rfl (by kernel_rfl) rfl ?_
  intro K hK
  go_simp
  refine (HNa.out _ HB).mono ?_; rintro e wn ⟨rfl, hbn⟩
  have Hn := btr HB hbn
  refine hK.out _ _ (HG.out _ Hn) ?_
  clear hK K HB hbn
  have HB := Hn
  clear Hn
  try simp only
  have hS := HG.out _ HB
  clear hS
  refine ord_one 5 rfl (by kernel_rfl) rfl ?_
  intro K hK
  go_simp
  refine (HNb.out _ HB).mono ?_; rintro e wn ⟨rfl, hbn⟩
  have Hn := btr HB hbn
  refine hK.out _ _ (HG.out _ Hn) ?_
  clear hK K HB hbn
  have HB := Hn
  clear Hn
  try simp only
  have hS := HG.out _ HB
  refine ord_take (v := ?_) 6 rfl rfl (by kernel_rfl) (by kernel_rfl) (fun _ _ _ h => h) (Or.inl ⟨by rfl, ?_⟩) hS ?_
  rotate_left
  · rintro W ⟨y, rfl⟩
    go_simp
    (try with_reducible rfl)
  simp only [Act.put, List.setIfInBounds_toArray, List.set_cons_zero, List.set_cons_succ]
  refine ord_take (v := ?_) 7 rfl rfl (by kernel_rfl) (by kernel_rfl) (fun _ _ _ h => h) (Or.inl ⟨by rfl, ?_⟩) hS ?_
  rotate_left
  · rintro W ⟨y, rfl⟩
    go_simp
    (try with_reducible rfl)
  simp only [Act.put, List.setIfInBounds_toArray, List.set_cons_zero, List.set_cons_succ]
  clear hS
  refine ⟨by kernel_rfl, ?_⟩
  refine NoPanic.normal ?_
  have hA1 := hA.below HB
  have B1 := btr hB0 HB
  replace hs3 := hs3.below HB
  have a8 := hA1.c 8 _ rfl
  clear HG HA hA HNa HNb hB0 HB
  cases ga : sa.toList.isEmpty
  · cases gb : sb.toList.isEmpty
    · have HE := Lib.hid (show R = ((F.kern.find? (prB sa sb)).map Pr.mv).getD 0 by rw [HR2.out, ga, gb]; rfl)
      clear HR2 HSA HSB
      go_wp2_with fail
      go_loopw [26] (fun i wr => ∃ k, k ≤ n3 ∧ i = .int .i64 (k : Int) ∧ Below wn.heap.size wn wr ∧ Hid ((F.kern.take k).find? (prB sa sb) = none)) (fun i _ => n3 - (intOf i).toNat)
      case atStart => exact ⟨0, by omega, rfl, Below.refl _ _, Lib.hid rfl⟩
      case round =>
        obtain ⟨wo, rfl⟩ : ∃ wo : World, wo = wr := ⟨_, rfl⟩
        obtain ⟨k, hk, rfl, hbr, hal⟩ := hrel
        by_cases hlt : k < n3
        · have hkk : k < F.kern.length := by rw [HN3.out]; exact hlt
          obtain ⟨b, off, rfl, hb, d0, d1, d2⟩ := (hs3.below hbr).pr k hlt hkk
          obtain ⟨x, hx⟩ : ∃ x, x = F.kern[k] := ⟨_, rfl⟩
          have hyes := find_yes (f := prB sa sb) hkk hal.out
          have hno := find_no (f := prB sa sb) hkk hal.out
          rw [← hx] at d0 d1 d2 hno hyes
          have HNO := Lib.hid hno
          have HYES := Lib.hid hyes
          clear hx hno hyes
          by_cases e1 : x.a = sa
          · by_cases e2 : x.b = sb
            · have HE2 := Lib.hid (show R = x.mv by rw [HE.out, HYES.out (by unfold prB; rw [decide_eq_true e1, decide_eq_true e2]; rfl)]; rfl)
              have e1' : (x.a.toList == sa.toList) = true := by rw [str_eq]; exact decide_eq_true e1
              have e2' : (x.b.toList == sb.toList) = true := by rw [str_eq]; exact decide_eq_true e2
              clear HNO HYES e1 e2 HE
              go_wp2
              go_ret
              exact ⟨by rw [HE2.out]; rfl, btr B1 (bal hbr _)⟩
            · have HF2 := Lib.hid (HNO.out (by unfold prB; rw [decide_eq_false e2, Bool.and_false]))
              have e1' : (x.a.toList == sa.toList) = true := by rw [str_eq]; exact decide_eq_true e1
              have e2' : (x.b.toList == sb.toList) = false := by rw [str_eq]; exact decide_eq_false e2
              clear HNO HYES e1 e2
              go_wp2_with fail
              go_roundw
              case rel => exact ⟨k + 1, by omega, by go_num, bal hbr _, HF2⟩
              case measure => simp [intOf]; omega
          · have HF2 := Lib.hid (HNO.out (by unfold prB; rw [decide_eq_false e1, Bool.false_and]))
            have e1' : (x.a.toList == sa.toList) = false := by rw [str_eq]; exact decide_eq_false e1
            clear HNO HYES e1
            go_wp2_with fail
            go_roundw
            case rel => exact ⟨k + 1, by omega, by go_num, bal hbr _, HF2⟩
            case measure => simp [intOf]; omega
        · obtain rfl : k = n3 := by omega
          have hall := hal.out
          rw [List.take_of_length_le (by rw [HN3.out]; omega)] at hall
          have HE2 := Lib.hid (show R = 0 by rw [HE.out, hall]; rfl)
          clear hall hal HE
          go_wp2
          go_ret
          exact ⟨by rw [HE2.out]; rfl, btr B1 hbr⟩
    · have HE := Lib.hid (show R = 0 by rw [HR2.out, gb, Bool.or_true]; rfl)
      clear HR2
      go_wp2
      go_ret
      exact ⟨by rw [HE.out]; rfl, B1⟩
  · have HE := Lib.hid (show R = 0 by rw [HR2.out, ga]; rfl)
    clear HR2
    go_wp2
    go_ret
    exact ⟨by rw [HE.out]; rfl, B1⟩
end Go.Proofs.Ytaphmonpdnbiiaa
