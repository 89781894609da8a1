/- FontSays: the walk. -/
import Derived.Test.YtaphmonpdnbiiaaGreatFontFew
import Derived.Test.YtaphmonpdnbiiaaGreatFontLe2
import Derived.Test.YtaphmonpdnbiiaaGreatFRef5
import Derived.Test.YtaphmonpdnbiiaaGreatFontKn
import Derived.Test.YtaphmonpdnbiiaaGreatSame
namespace Go.Proofs.YtaphmonpdnbiiaaGreat
open Go.RowKit Go.BigFrame

theorem outS_len (F : Fo) (m : Mt) : ∀ (s : List Nat) (l : List Sg) (x y : Int), l.length ≤ 300 → (outS F m l x y s).1.1.length ≤ 300
  | [], l, x, y, h => h
  | c :: s, l, x, y, h => by
    rw [outS]
    split
    · exact Nat.zero_le _
    split
    · exact Nat.zero_le _
    split
    · exact Nat.zero_le _
    split
    · exact Nat.zero_le _
    split
    · exact Nat.zero_le _
    · exact outS_len F m s _ _ _ (joinL_len _ _)
theorem outF_len (F : Fo) (m : Mt) (x y : Int) (s : List Nat) : (outF F m x y s).1.1.length ≤ 300 := by
  unfold outF
  split
  · exact outS_len F m s [] x y (Nat.zero_le _)
  · exact Nat.zero_le _
set_option maxRecDepth 100000 in
set_option maxHeartbeats 8000000 in
theorem FontSays_any (F : Fo) (C : List Value) (m : Mt) (x y : Int) (s : ByteArray) (ia ib : Int) (w : World) (hRd : FoRd w F C) (hsz : s.size ≤ 9223372036854775807) (hia : 0 ≤ ia ∧ ia ≤ 255) (hib : 0 ≤ ib ∧ ib ≤ 255) :
    Calls Tryz.prog 4 #[.agg C.toArray, mtv m, .int .i64 x, .int .i64 y, .string s, .int .u8 ia, .int .u8 ib] w fun e w' => e = .returned (.bool true) ∧ Below w.heap.size w w' := by
  obtain ⟨a, rfl⟩ : ∃ n : Nat, ia = n := ⟨ia.toNat, by omega⟩
  obtain ⟨b, rfl⟩ : ∃ n : Nat, ib = n := ⟨ib.toNat, by omega⟩
  have ha : a < 256 := by omega
  have hb : b < 256 := by omega
  clear hia hib
  have h9 := hRd.len
  rw [vm m]
  obtain ⟨w0, hw0⟩ : ∃ w0 : World, w0 = (w.alloc (.cells C.toArray 30)).alloc (.cells (mtC m).toArray 25) := ⟨_, rfl⟩
  have Q : Below w.heap.size w w0 := by rw [hw0]; exact bal (bal (Below.refl _ _) _) _
  have hF : BC w0 w.heap.size C := by rw [hw0]; exact (BC.new C 30 rfl).below (bal (Below.refl _ _) _)
  have hM : BC w0 (w.heap.size + 1) (mtC m) := by rw [hw0]; exact BC.new (w := w.alloc _) (mtC m) 25 (by simp)
  obtain ⟨gM, hgM⟩ : ∃ g, g = w.heap.size + 1 := ⟨_, rfl⟩
  obtain ⟨gF, hgF⟩ : ∃ g, g = w.heap.size := ⟨_, rfl⟩
  have HGM := Lib.hid hgM
  have HGF := Lib.hid hgF
  rw [← hgM] at hM
  rw [← hgF] at hF
  have HFW := Lib.hid fun W (hq : Below w.heap.size w W) => few_any F C W (hRd.below hq)
  have HAT := Lib.hid fun (hf : fewF F = true) W (hq : Below w.heap.size w W) => (hRd.few hf).below hq
  have hss : IntKind.i64.wrap (s.size : Int) = s.size := IntWalk.i64_in _ (by omega)
  clear hRd hgM hgF
  go_enter Tryz.func4, Tryz.ntmps4
  go_upto_region 1 with (fail)
  rw [← hw0, ← HGM.out, ← HGF.out]
  clear hw0
  go_wp2_with fail
  refine (known41_any _).mono ?_; rintro e w1 ⟨rfl, b1⟩
  replace Q := btr Q b1
  replace hF := hF.below b1
  replace hM := hM.below b1
  clear b1
  go_wp2_with (first
    | (refine wpList_load_rec rfl _ _ rfl gF rfl _ 9 foT hF h9 ?_)
    | (refine wpList_load_rec rfl _ _ rfl gM rfl _ 6 matT2 hM rfl ?_)
    | fail)
  refine (HFW.out _ Q).mono ?_; rintro e w2 ⟨rfl, b2⟩
  replace Q := btr Q b2
  replace hF := hF.below b2
  replace hM := hM.below b2
  clear b2 HFW
  cases hfew : fewF F
  · go_wp2_with fail
    go_ret
    exact ⟨rfl, Q⟩
  have HFo := Lib.hid (HAT.out hfew)
  clear hfew HAT
  by_cases hl : 12 < s.size
  · have hl' : decide (12 < (s.size : Int)) = true := by simp; omega
    clear hl
    go_wp2_with fail
    go_ret
    exact ⟨rfl, Q⟩
  have hl' : decide (12 < (s.size : Int)) = false := by simp; omega
  have hz0 : s.size ≤ 1000000 := by omega
  obtain ⟨nm, pg, okb, hlv⟩ : ∃ (nm pg : ByteArray) (okb : Bool), letV (letterF F a) = .tuple #[.agg #[.string nm, .string pg], .bool okb] := ⟨_, _, _, rfl⟩
  obtain ⟨⟨wd, er⟩, hwd⟩ : ∃ R, wideF F a = R := ⟨_, rfl⟩
  obtain ⟨⟨P, pe⟩, hP⟩ : ∃ R, pathF F m x y a = R := ⟨_, rfl⟩
  obtain ⟨⟨⟨O, xR, yR⟩, oe⟩, hO⟩ : ∃ R, outF F m x y (bl s) = R := ⟨_, rfl⟩
  obtain ⟨kv, hkv⟩ : ∃ k, (if openB F then kernF F a b else 0) = k := ⟨_, rfl⟩
  have HL1 := Lib.hid fun W (hq : Below w.heap.size w W) => fontLetter_any F C a W ha (HFo.out W hq)
  have HL2 := Lib.hid fun W (hq : Below w.heap.size w W) => rLetter_any F C a W ha (HFo.out W hq)
  have HW1 := Lib.hid fun W (hq : Below w.heap.size w W) => fontWide_any F C a W ha (HFo.out W hq)
  have HW2 := Lib.hid fun W (hq : Below w.heap.size w W) => rWide_any F C a W ha (HFo.out W hq)
  have HK1 := Lib.hid fun W (hq : Below w.heap.size w W) => Kern_any F C a b W ha hb (HFo.out W hq)
  have HK2 := Lib.hid fun W (hq : Below w.heap.size w W) => rKern_any F C a b W ha hb (HFo.out W hq)
  have HY1 := Lib.hid fun W (hq : Below w.heap.size w W) => fontMay_any F C W (HFo.out W hq)
  have HY2 := Lib.hid fun W (hq : Below w.heap.size w W) => rFontMay_any F C W (HFo.out W hq)
  have HP1 := Lib.hid fun W (hq : Below w.heap.size w W) => fontPath_any F C m x y a (P, pe) W ha (HFo.out W hq) hP
  have HP2 := Lib.hid fun W (hq : Below w.heap.size w W) => rPath_any F C m x y a (P, pe) W ha (HFo.out W hq) hP
  have HO1 := Lib.hid fun W (hq : Below w.heap.size w W) => outline_any F C m x y s ((O, xR, yR), oe) W hz0 (HFo.out W hq) hO
  have HO2 := Lib.hid fun W (hq : Below w.heap.size w W) => rOutline_any F C m x y s ((O, xR, yR), oe) W hz0 (HFo.out W hq) hO
  have hPl : P.length ≤ 1000000 := by have := pathF_len F m x y a; rw [hP] at this; simp only at this; omega
  obtain ⟨nP, hnP⟩ : ∃ n, n = P.length := ⟨_, rfl⟩
  obtain ⟨nO, hnO⟩ : ∃ n, n = O.length := ⟨_, rfl⟩
  obtain ⟨ob, hob⟩ : ∃ q, openB F = q := ⟨_, rfl⟩
  have hOl : O.length ≤ 1000000 := by have := outF_len F m x y (bl s); rw [hO] at this; simp only at this; omega
  rw [hlv] at HL1 HL2
  rw [hwd] at HW1 HW2
  rw [hkv] at HK1 HK2
  rw [hob] at HY1 HY2
  simp only [vm] at HP1 HP2 HO1 HO2 HW1 HW2
  rw [← hnP] at HP1 HP2 hPl
  rw [← hnO] at HO1 HO2 hOl
  clear hlv hwd hP hO hkv hl ha hb hnP hnO hz0 HFo hob hsz
  go_wp2_with (first
    | (refine wpList_load_rec rfl _ _ rfl gF rfl _ 9 foT hF h9 ?_)
    | (refine wpList_load_rec rfl _ _ rfl gM rfl _ 6 matT2 hM rfl ?_)
    | fail)
  refine (HL1.out _ Q).mono ?_; rintro e w3 ⟨rfl, b3⟩
  replace Q := btr Q b3
  replace hF := hF.below b3
  replace hM := hM.below b3
  clear b3 HL1
  go_upto_region 6 with (fail)
  obtain ⟨w4, hwb⟩ : ∃ W, W = w3.alloc (.cells #[.string nm, .string pg] 48) := ⟨_, rfl⟩
  have b4 : Below w3.heap.size w3 w4 := by rw [hwb]; exact bal (Below.refl _ _) _
  have h15 : BC w4 w3.heap.size (lec ⟨nm, pg⟩) := by rw [hwb]; exact BC.new (lec ⟨nm, pg⟩) 48 rfl
  obtain ⟨g15, hgg⟩ : ∃ g, g = w3.heap.size := ⟨_, rfl⟩
  rw [← hwb, ← hgg]
  rw [← hgg] at h15
  clear hwb hgg
  replace Q := btr Q b4
  replace hF := hF.below b4
  replace hM := hM.below b4
  go_wp2_with (first
    | (refine wpList_load_rec rfl _ _ rfl gF rfl _ 9 foT hF h9 ?_)
    | (refine wpList_load_rec rfl _ _ rfl gM rfl _ 6 matT2 hM rfl ?_)
    | fail)
  refine (HL2.out _ Q).mono ?_; rintro e w5 ⟨rfl, b5⟩
  replace Q := btr Q b5
  replace hF := hF.below b5
  replace hM := hM.below b5
  replace h15 := h15.below b5
  clear b5 HL2
  go_upto_region 7 with (fail)
  obtain ⟨w6, hwb⟩ : ∃ W, W = w5.alloc (.cells #[.string nm, .string pg] 48) := ⟨_, rfl⟩
  have b4 : Below w5.heap.size w5 w6 := by rw [hwb]; exact bal (Below.refl _ _) _
  have h17 : BC w6 w5.heap.size (lec ⟨nm, pg⟩) := by rw [hwb]; exact BC.new (lec ⟨nm, pg⟩) 48 rfl
  obtain ⟨g17, hgg⟩ : ∃ g, g = w5.heap.size := ⟨_, rfl⟩
  rw [← hwb, ← hgg]
  rw [← hgg] at h17
  clear hwb hgg
  replace Q := btr Q b4
  replace hF := hF.below b4
  replace hM := hM.below b4
  replace h15 := h15.below b4
  clear b4
  go_wp2_with (first
    | (refine wpList_load_rec rfl _ _ rfl gF rfl _ 9 foT hF h9 ?_)
    | (refine wpList_load_rec rfl _ _ rfl gM rfl _ 6 matT2 hM rfl ?_)
    | fail)
  refine (HW1.out _ Q).mono ?_; rintro e w7 ⟨rfl, b5⟩
  replace Q := btr Q b5
  replace hF := hF.below b5
  replace hM := hM.below b5
  replace h15 := h15.below b5
  replace h17 := h17.below b5
  clear b5 HW1
  go_wp2_with (first
    | (refine wpList_load_rec rfl _ _ rfl gF rfl _ 9 foT hF h9 ?_)
    | (refine wpList_load_rec rfl _ _ rfl gM rfl _ 6 matT2 hM rfl ?_)
    | fail)
  refine (HW2.out _ Q).mono ?_; rintro e w8 ⟨rfl, b5⟩
  replace Q := btr Q b5
  replace hF := hF.below b5
  replace hM := hM.below b5
  replace h15 := h15.below b5
  replace h17 := h17.below b5
  clear b5 HW2
  go_wp2_with (first
    | (refine wpList_load_rec rfl _ _ rfl gF rfl _ 9 foT hF h9 ?_)
    | (refine wpList_load_rec rfl _ _ rfl gM rfl _ 6 matT2 hM rfl ?_)
    | fail)
  refine (HP1.out _ Q).mono ?_; rintro e w9 ⟨b5, A1, c1, rfl, hsa⟩
  replace Q := btr Q b5
  replace hF := hF.below b5
  replace hM := hM.below b5
  replace h15 := h15.below b5
  replace h17 := h17.below b5
  clear b5 HP1
  go_wp2_with (first
    | (refine wpList_load_rec rfl _ _ rfl gF rfl _ 9 foT hF h9 ?_)
    | (refine wpList_load_rec rfl _ _ rfl gM rfl _ 6 matT2 hM rfl ?_)
    | fail)
  refine (HP2.out _ Q).mono ?_; rintro e wa ⟨b5, A2, c2, rfl, hsb⟩
  replace Q := btr Q b5
  replace hF := hF.below b5
  replace hM := hM.below b5
  replace h15 := h15.below b5
  replace h17 := h17.below b5
  replace hsa := hsa.below b5
  clear b5 HP2
  go_upto_region 11 with (fail)
  refine wp_region_ord (fun W => ∃ y : Grown wa, W = y.world) [] 47 (by kernel_rfl) (by kernel_rfl) ⟨⟨_, bdrew (Below.refl _ _)⟩, rfl⟩ ?_
  intro hS
  have HAo := Lib.hid fun (V : World) (hV : ∃ y : Grown wa, V = y.world) => (show BC V gF C by obtain ⟨y, rfl⟩ := hV; exact hF.below y.below)
  have H15 := Lib.hid fun (V : World) (hV : ∃ y : Grown wa, V = y.world) => (show BC V g15 [Value.string nm, Value.string pg] by obtain ⟨y, rfl⟩ := hV; exact h15.below y.below)
  have H17 := Lib.hid fun (V : World) (hV : ∃ y : Grown wa, V = y.world) => (show BC V g17 [Value.string nm, Value.string pg] by obtain ⟨y, rfl⟩ := hV; exact h17.below y.below)
  have HG := Lib.hid (fun (V : World) (hV : Below wa.heap.size wa V) => (⟨⟨V, hV⟩, rfl⟩ : ∃ y : Grown wa, V = y.world))
  have HB := bdrew (Below.refl wa.heap.size wa)
  refine ord_take 0 rfl rfl (by kernel_rfl) (by kernel_rfl) (fun _ _ _ h => h) (yieldsIf_rec (by rfl) _ _ rfl _ rfl _ 9 foT HAo.out h9) hS ?_
  simp only [Act.put, List.setIfInBounds_toArray, List.set_cons_zero, List.set_cons_succ]
  refine ord_take 2 rfl rfl (by kernel_rfl) (by kernel_rfl) (fun _ _ _ h => h) (yieldsIf_rec (by rfl) _ _ rfl _ rfl _ 9 foT HAo.out h9) hS ?_
  simp only [Act.put, List.setIfInBounds_toArray, List.set_cons_zero, List.set_cons_succ]
  clear hS
  refine ord_one 1 rfl (by kernel_rfl) rfl ?_
  intro K hK
  go_simp
  refine (HY1.out _ (btr Q HB)).mono ?_; rintro e wn ⟨rfl, b5⟩
  have Hn := btr HB b5
  refine hK.out _ _ (HG.out _ Hn) ?_
  clear hK K HB b5
  have HB := Hn
  clear Hn
  try simp only
  have hS := HG.out _ HB
  clear hS
  refine ord_one 3 rfl (by kernel_rfl) rfl ?_
  intro K hK
  go_simp
  refine (HY2.out _ (btr Q HB)).mono ?_; rintro e wn ⟨rfl, b5⟩
  have Hn := btr HB b5
  refine hK.out _ _ (HG.out _ Hn) ?_
  clear hK K HB b5
  have HB := Hn
  clear Hn
  try simp only
  have hS := HG.out _ HB
  refine ord_take (v := ?_) 4 rfl rfl (by kernel_rfl) (by kernel_rfl) (fun _ _ _ h => h) (Or.inl ⟨by rfl, ?_⟩) hS ?_
  rotate_left
  · rintro W ⟨y, rfl⟩
    go_simp
    (try with_reducible rfl)
  simp only [Act.put, List.setIfInBounds_toArray, List.set_cons_zero, List.set_cons_succ]
  refine ord_take (v := ?_) 5 rfl rfl (by kernel_rfl) (by kernel_rfl) (fun _ _ _ h => h) (Or.inl ⟨by rfl, ?_⟩) hS ?_
  rotate_left
  · rintro W ⟨y, rfl⟩
    go_simp
    (try with_reducible rfl)
  simp only [Act.put, List.setIfInBounds_toArray, List.set_cons_zero, List.set_cons_succ]
  refine ord_take 6 rfl rfl (by kernel_rfl) (by kernel_rfl) (fun _ _ _ h => h) (yieldsIf_rec (by rfl) _ _ rfl _ rfl _ 2 letT H15.out rfl) hS ?_
  simp only [Act.put, List.setIfInBounds_toArray, List.set_cons_zero, List.set_cons_succ]
  refine ord_take 7 rfl rfl (by kernel_rfl) (by kernel_rfl) (fun _ _ _ h => h) (yieldsIf_rec (by rfl) _ _ rfl _ rfl _ 2 letT H17.out rfl) hS ?_
  simp only [Act.put, List.setIfInBounds_toArray, List.set_cons_zero, List.set_cons_succ]
  refine ord_take (v := ?_) 8 rfl rfl (by kernel_rfl) (by kernel_rfl) (fun _ _ _ h => h) (Or.inl ⟨by rfl, ?_⟩) hS ?_
  rotate_left
  · rintro W ⟨y, rfl⟩
    go_simp
    (try with_reducible rfl)
  simp only [Act.put, List.setIfInBounds_toArray, List.set_cons_zero, List.set_cons_succ]
  refine ord_take (v := ?_) 9 rfl rfl (by kernel_rfl) (by kernel_rfl) (fun _ _ _ h => h) (Or.inl ⟨by rfl, ?_⟩) hS ?_
  rotate_left
  · rintro W ⟨y, rfl⟩
    go_simp
    (try with_reducible rfl)
  simp only [Act.put, List.setIfInBounds_toArray, List.set_cons_zero, List.set_cons_succ]
  refine ord_take (v := ?_) 10 rfl rfl (by kernel_rfl) (by kernel_rfl) (fun _ _ _ h => h) (Or.inl ⟨by rfl, ?_⟩) hS ?_
  rotate_left
  · rintro W ⟨y, rfl⟩
    go_simp
    (try with_reducible rfl)
  simp only [Act.put, List.setIfInBounds_toArray, List.set_cons_zero, List.set_cons_succ]
  refine ord_take (v := ?_) 11 rfl rfl (by kernel_rfl) (by kernel_rfl) (fun _ _ _ h => h) (Or.inl ⟨by rfl, ?_⟩) hS ?_
  rotate_left
  · rintro W ⟨y, rfl⟩
    go_simp
    (try with_reducible rfl)
  simp only [Act.put, List.setIfInBounds_toArray, List.set_cons_zero, List.set_cons_succ]
  refine ord_take (v := ?_) 12 rfl rfl (by kernel_rfl) (by kernel_rfl) (fun _ _ _ h => h) (Or.inl ⟨by rfl, ?_⟩) hS ?_
  rotate_left
  · rintro W ⟨y, rfl⟩
    go_simp
    (try with_reducible rfl)
  simp only [Act.put, List.setIfInBounds_toArray, List.set_cons_zero, List.set_cons_succ]
  refine ord_take (v := ?_) 13 rfl rfl (by kernel_rfl) (by kernel_rfl) (fun _ _ _ h => h) (Or.inl ⟨by rfl, ?_⟩) hS ?_
  rotate_left
  · rintro W ⟨y, rfl⟩
    go_simp
    (try with_reducible rfl)
  simp only [Act.put, List.setIfInBounds_toArray, List.set_cons_zero, List.set_cons_succ]
  refine ord_take (v := ?_) 14 rfl rfl (by kernel_rfl) (by kernel_rfl) (fun _ _ _ h => h) (Or.inl ⟨by rfl, ?_⟩) hS ?_
  rotate_left
  · rintro W ⟨y, rfl⟩
    go_simp
    (try with_reducible rfl)
  simp only [Act.put, List.setIfInBounds_toArray, List.set_cons_zero, List.set_cons_succ]
  refine ord_take (v := ?_) 15 rfl rfl (by kernel_rfl) (by kernel_rfl) (fun _ _ _ h => h) (Or.inl ⟨by rfl, ?_⟩) hS ?_
  rotate_left
  · rintro W ⟨y, rfl⟩
    go_simp
    (try with_reducible rfl)
  simp only [Act.put, List.setIfInBounds_toArray, List.set_cons_zero, List.set_cons_succ]
  refine ord_take 16 rfl rfl (by kernel_rfl) (by kernel_rfl) (fun _ _ _ h => h) (yieldsIf_rec (by rfl) _ _ rfl _ rfl _ 9 foT HAo.out h9) hS ?_
  simp only [Act.put, List.setIfInBounds_toArray, List.set_cons_zero, List.set_cons_succ]
  refine ord_take (v := ?_) 17 rfl rfl (by kernel_rfl) (by kernel_rfl) (fun _ _ _ h => h) (Or.inl ⟨by rfl, ?_⟩) hS ?_
  rotate_left
  · rintro W ⟨y, rfl⟩
    go_simp
    (try with_reducible rfl)
  simp only [Act.put, List.setIfInBounds_toArray, List.set_cons_zero, List.set_cons_succ]
  refine ord_take (v := ?_) 18 rfl rfl (by kernel_rfl) (by kernel_rfl) (fun _ _ _ h => h) (Or.inl ⟨by rfl, ?_⟩) hS ?_
  rotate_left
  · rintro W ⟨y, rfl⟩
    go_simp
    (try with_reducible rfl)
  simp only [Act.put, List.setIfInBounds_toArray, List.set_cons_zero, List.set_cons_succ]
  refine ord_take 20 rfl rfl (by kernel_rfl) (by kernel_rfl) (fun _ _ _ h => h) (yieldsIf_rec (by rfl) _ _ rfl _ rfl _ 9 foT HAo.out h9) hS ?_
  simp only [Act.put, List.setIfInBounds_toArray, List.set_cons_zero, List.set_cons_succ]
  refine ord_take (v := ?_) 21 rfl rfl (by kernel_rfl) (by kernel_rfl) (fun _ _ _ h => h) (Or.inl ⟨by rfl, ?_⟩) hS ?_
  rotate_left
  · rintro W ⟨y, rfl⟩
    go_simp
    (try with_reducible rfl)
  simp only [Act.put, List.setIfInBounds_toArray, List.set_cons_zero, List.set_cons_succ]
  refine ord_take (v := ?_) 22 rfl rfl (by kernel_rfl) (by kernel_rfl) (fun _ _ _ h => h) (Or.inl ⟨by rfl, ?_⟩) hS ?_
  rotate_left
  · rintro W ⟨y, rfl⟩
    go_simp
    (try with_reducible rfl)
  simp only [Act.put, List.setIfInBounds_toArray, List.set_cons_zero, List.set_cons_succ]
  clear hS
  refine ord_one 19 rfl (by kernel_rfl) rfl ?_
  intro K hK
  go_simp
  refine (HK1.out _ (btr Q HB)).mono ?_; rintro e wn ⟨rfl, b5⟩
  have Hn := btr HB b5
  refine hK.out _ _ (HG.out _ Hn) ?_
  clear hK K HB b5
  have HB := Hn
  clear Hn
  try simp only
  have hS := HG.out _ HB
  clear hS
  refine ord_one 23 rfl (by kernel_rfl) rfl ?_
  intro K hK
  go_simp
  refine (HK2.out _ (btr Q HB)).mono ?_; rintro e wn ⟨rfl, b5⟩
  have Hn := btr HB b5
  refine hK.out _ _ (HG.out _ Hn) ?_
  clear hK K HB b5
  have HB := Hn
  clear Hn
  try simp only
  have hS := HG.out _ HB
  refine ord_take (v := ?_) 24 rfl rfl (by kernel_rfl) (by kernel_rfl) (fun _ _ _ h => h) (Or.inl ⟨by rfl, ?_⟩) hS ?_
  rotate_left
  · rintro W ⟨y, rfl⟩
    go_simp
    (try with_reducible rfl)
  simp only [Act.put, List.setIfInBounds_toArray, List.set_cons_zero, List.set_cons_succ]
  refine ord_take (v := ?_) 25 rfl rfl (by kernel_rfl) (by kernel_rfl) (fun _ _ _ h => h) (Or.inl ⟨by rfl, ?_⟩) hS ?_
  rotate_left
  · rintro W ⟨y, rfl⟩
    go_simp
    (try with_reducible rfl)
  simp only [Act.put, List.setIfInBounds_toArray, List.set_cons_zero, List.set_cons_succ]
  refine ord_take (v := ?_) 26 rfl rfl (by kernel_rfl) (by kernel_rfl) (fun _ _ _ h => h) (Or.inl ⟨by rfl, ?_⟩) hS ?_
  rotate_left
  · rintro W ⟨y, rfl⟩
    go_simp
    (try with_reducible rfl)
  simp only [Act.put, List.setIfInBounds_toArray, List.set_cons_zero, List.set_cons_succ]
  refine ord_take (v := ?_) 27 rfl rfl (by kernel_rfl) (by kernel_rfl) (fun _ _ _ h => h) (Or.inl ⟨by rfl, ?_⟩) hS ?_
  rotate_left
  · rintro W ⟨y, rfl⟩
    go_simp
    (try with_reducible rfl)
  simp only [Act.put, List.setIfInBounds_toArray, List.set_cons_zero, List.set_cons_succ]
  refine ord_take (v := ?_) 28 rfl rfl (by kernel_rfl) (by kernel_rfl) (fun _ _ _ h => h) (Or.inl ⟨by rfl, ?_⟩) hS ?_
  rotate_left
  · rintro W ⟨y, rfl⟩
    go_simp
    (try with_reducible rfl)
  simp only [Act.put, List.setIfInBounds_toArray, List.set_cons_zero, List.set_cons_succ]
  refine ord_take (v := ?_) 29 rfl rfl (by kernel_rfl) (by kernel_rfl) (fun _ _ _ h => h) (Or.inl ⟨by rfl, ?_⟩) hS ?_
  rotate_left
  · rintro W ⟨y, rfl⟩
    go_simp
    (try with_reducible rfl)
  simp only [Act.put, List.setIfInBounds_toArray, List.set_cons_zero, List.set_cons_succ]
  refine ord_take (v := ?_) 30 rfl rfl (by kernel_rfl) (by kernel_rfl) (fun _ _ _ h => h) (Or.inl ⟨by rfl, ?_⟩) hS ?_
  rotate_left
  · rintro W ⟨y, rfl⟩
    go_simp
    (try with_reducible rfl)
  simp only [Act.put, List.setIfInBounds_toArray, List.set_cons_zero, List.set_cons_succ]
  refine ord_take (v := ?_) 31 rfl rfl (by kernel_rfl) (by kernel_rfl) (fun _ _ _ h => h) (Or.inl ⟨by rfl, ?_⟩) hS ?_
  rotate_left
  · rintro W ⟨y, rfl⟩
    go_simp
    (try with_reducible rfl)
  simp only [Act.put, List.setIfInBounds_toArray, List.set_cons_zero, List.set_cons_succ]
  refine ord_take (v := ?_) 32 rfl rfl (by kernel_rfl) (by kernel_rfl) (fun _ _ _ h => h) (Or.inl ⟨by rfl, ?_⟩) hS ?_
  rotate_left
  · rintro W ⟨y, rfl⟩
    go_simp
    (try with_reducible rfl)
  simp only [Act.put, List.setIfInBounds_toArray, List.set_cons_zero, List.set_cons_succ]
  refine ord_take (v := ?_) 33 rfl rfl (by kernel_rfl) (by kernel_rfl) (fun _ _ _ h => h) (Or.inl ⟨by rfl, ?_⟩) hS ?_
  rotate_left
  · rintro W ⟨y, rfl⟩
    go_simp
    (try with_reducible rfl)
  simp only [Act.put, List.setIfInBounds_toArray, List.set_cons_zero, List.set_cons_succ]
  refine ord_take (v := ?_) 34 rfl rfl (by kernel_rfl) (by kernel_rfl) (fun _ _ _ h => h) (Or.inl ⟨by rfl, ?_⟩) hS ?_
  rotate_left
  · rintro W ⟨y, rfl⟩
    go_simp
    (try with_reducible rfl)
  simp only [Act.put, List.setIfInBounds_toArray, List.set_cons_zero, List.set_cons_succ]
  refine ord_take (v := ?_) 35 rfl rfl (by kernel_rfl) (by kernel_rfl) (fun _ _ _ h => h) (Or.inl ⟨by rfl, ?_⟩) hS ?_
  rotate_left
  · rintro W ⟨y, rfl⟩
    go_simp
    (try with_reducible rfl)
  simp only [Act.put, List.setIfInBounds_toArray, List.set_cons_zero, List.set_cons_succ]
  refine ord_take (v := ?_) 36 rfl rfl (by kernel_rfl) (by kernel_rfl) (fun _ _ _ h => h) (Or.inl ⟨by rfl, ?_⟩) hS ?_
  rotate_left
  · rintro W ⟨y, rfl⟩
    go_simp
    (try with_reducible rfl)
  simp only [Act.put, List.setIfInBounds_toArray, List.set_cons_zero, List.set_cons_succ]
  refine ord_take (v := ?_) 37 rfl rfl (by kernel_rfl) (by kernel_rfl) (fun _ _ _ h => h) (Or.inl ⟨by rfl, ?_⟩) hS ?_
  rotate_left
  · rintro W ⟨y, rfl⟩
    go_simp
    (try with_reducible rfl)
  simp only [Act.put, List.setIfInBounds_toArray, List.set_cons_zero, List.set_cons_succ]
  refine ord_take (v := ?_) 38 rfl rfl (by kernel_rfl) (by kernel_rfl) (fun _ _ _ h => h) (Or.inl ⟨by rfl, ?_⟩) hS ?_
  rotate_left
  · rintro W ⟨y, rfl⟩
    go_simp
    (try with_reducible rfl)
  simp only [Act.put, List.setIfInBounds_toArray, List.set_cons_zero, List.set_cons_succ]
  clear hS
  refine ord_one 39 rfl (by kernel_rfl) rfl ?_
  intro K hK
  go_simp
  refine (sameSg_any _ _ _ _ _ _ P _ hPl (hsa.below HB) (hsb.below HB)).mono ?_; rintro e wn2 ⟨rfl, q7, rfl⟩
  have Hn := btr HB (bdrewN (Below.refl _ _) q7)
  refine hK.out _ _ (HG.out _ Hn) ?_
  clear hK K
  try simp only
  have hS := HG.out _ Hn
  refine ord_take (v := ?_) 40 rfl rfl (by kernel_rfl) (by kernel_rfl) (fun _ _ _ h => h) (Or.inl ⟨by rfl, ?_⟩) hS ?_
  rotate_left
  · rintro W ⟨y, rfl⟩
    go_simp
    (try with_reducible rfl)
  simp only [Act.put, List.setIfInBounds_toArray, List.set_cons_zero, List.set_cons_succ]
  refine ord_take (v := ?_) 41 rfl rfl (by kernel_rfl) (by kernel_rfl) (fun _ _ _ h => h) (Or.inl ⟨by rfl, ?_⟩) hS ?_
  rotate_left
  · rintro W ⟨y, rfl⟩
    go_simp
    (try with_reducible rfl)
  simp only [Act.put, List.setIfInBounds_toArray, List.set_cons_zero, List.set_cons_succ]
  refine ord_take (v := ?_) 42 rfl rfl (by kernel_rfl) (by kernel_rfl) (fun _ _ _ h => h) (Or.inl ⟨by rfl, ?_⟩) hS ?_
  rotate_left
  · rintro W ⟨y, rfl⟩
    go_simp
    (try with_reducible rfl)
  simp only [Act.put, List.setIfInBounds_toArray, List.set_cons_zero, List.set_cons_succ]
  refine ord_take (v := ?_) 43 rfl rfl (by kernel_rfl) (by kernel_rfl) (fun _ _ _ h => h) (Or.inl ⟨by rfl, ?_⟩) hS ?_
  rotate_left
  · rintro W ⟨y, rfl⟩
    go_simp
    (try with_reducible rfl)
  simp only [Act.put, List.setIfInBounds_toArray, List.set_cons_zero, List.set_cons_succ]
  refine ord_take (v := ?_) 44 rfl rfl (by kernel_rfl) (by kernel_rfl) (fun _ _ _ h => h) (Or.inl ⟨by rfl, ?_⟩) hS ?_
  rotate_left
  · rintro W ⟨y, rfl⟩
    go_simp
    (try with_reducible rfl)
  simp only [Act.put, List.setIfInBounds_toArray, List.set_cons_zero, List.set_cons_succ]
  refine ord_take (v := ?_) 45 rfl rfl (by kernel_rfl) (by kernel_rfl) (fun _ _ _ h => h) (Or.inl ⟨by rfl, ?_⟩) hS ?_
  rotate_left
  · rintro W ⟨y, rfl⟩
    go_simp
    (try with_reducible rfl)
  simp only [Act.put, List.setIfInBounds_toArray, List.set_cons_zero, List.set_cons_succ]
  refine ord_take (v := ?_) 46 rfl rfl (by kernel_rfl) (by kernel_rfl) (fun _ _ _ h => h) (Or.inl ⟨by rfl, ?_⟩) hS ?_
  rotate_left
  · rintro W ⟨y, rfl⟩
    go_simp
    (try with_reducible rfl)
  simp only [Act.put, List.setIfInBounds_toArray, List.set_cons_zero, List.set_cons_succ]
  clear hS HG HAo H15 H17
  refine ⟨by kernel_rfl, ?_⟩
  refine NoPanic.normal ?_
  replace Q := btr Q Hn
  replace hF := hF.below Hn
  replace hM := hM.below Hn
  obtain ⟨wb, hwb⟩ : ∃ W, W = wn.drewN q7 := ⟨_, rfl⟩
  rw [← hwb] at Q hF hM ⊢
  clear hwb Hn HB hsa hsb h15 h17 HK1 HK2 HY1 HY2
  go_wp2_with (first
    | (refine wpList_load_rec rfl _ _ rfl gF rfl _ 9 foT hF h9 ?_)
    | (refine wpList_load_rec rfl _ _ rfl gM rfl _ 6 matT2 hM rfl ?_)
    | fail)
  refine (HO1.out _ Q).mono ?_; rintro e wc ⟨b5, A3, c3, rfl, hsa⟩
  replace Q := btr Q b5
  replace hF := hF.below b5
  replace hM := hM.below b5
  clear b5 HO1
  go_wp2_with (first
    | (refine wpList_load_rec rfl _ _ rfl gF rfl _ 9 foT hF h9 ?_)
    | (refine wpList_load_rec rfl _ _ rfl gM rfl _ 6 matT2 hM rfl ?_)
    | fail)
  refine (HO2.out _ Q).mono ?_; rintro e wd ⟨b5, A4, c4, rfl, hsb⟩
  replace Q := btr Q b5
  replace hsa := hsa.below b5
  clear b5 HO2 hF hM
  go_wp2_with fail
  refine (sameSg_any _ _ _ _ _ _ O _ hOl hsa hsb).mono ?_; rintro e w12 ⟨rfl, q8, rfl⟩
  go_wp2_with fail
  go_ret
  exact ⟨rfl, bdrewN Q q8⟩
end Go.Proofs.YtaphmonpdnbiiaaGreat
