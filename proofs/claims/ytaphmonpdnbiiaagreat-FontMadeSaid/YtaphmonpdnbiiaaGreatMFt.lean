/- Texts, beginnings by numbers. -/
import Derived.Test.YtaphmonpdnbiiaaGreatFontMd
import Derived.Test.YtaphmonpdnbiiaaGreatAllP
import Derived.Test.YtaphmonpdnbiiaaGreatMGc
import Derived.Test.YtaphmonpdnbiiaaGreatFontKn
import Derived.Test.YtaphmonpdnbiiaaGreatFontMd2
import Derived.Test.YtaphmonpdnbiiaaGreatMFp
import Derived.Test.YtaphmonpdnbiiaaGreatSame
namespace Go.Proofs.YtaphmonpdnbiiaaGreat
open Go.RowKit Go.BigFrame

def smallI (v : Int) : Int := (placeI v 60 - 20) * 65536
theorem small_any (v : Int) (w : World) : Calls Tryz.prog 10 #[.int .i64 v] w fun e w' => e = .returned (.int .i64 (smallI v)) ∧ w = w' := by
  have hr := placeI_range v 60 (by omega)
  obtain ⟨p, hp⟩ : ∃ p, placeI v 60 = p := ⟨_, rfl⟩
  have HP := Lib.hid hp
  have HPl := Lib.hid fun W => Place_any v 60 W (by omega) (by omega)
  rw [hp] at hr HPl
  have w1 : IntKind.i64.wrap (p - 20) = p - 20 := IntWalk.i64_in _ (by omega)
  have w2 : IntKind.i64.wrap ((p - 20) * 65536) = (p - 20) * 65536 := IntWalk.i64_in _ (by omega)
  clear hp
  go_enter Tryz.func10, Tryz.ntmps10
  go_wp2_with fail
  refine (HPl.out _).mono ?_; rintro e w' ⟨rfl, rfl⟩
  go_wp2
  go_ret
  exact ⟨by unfold smallI; rw [HP.out]; rfl, rfl⟩
theorem small_bd (v : Int) : ∃ p, smallI v = p * 65536 ∧ -20 ≤ p ∧ p ≤ 39 := by
  have := placeI_range v 60 (by omega)
  exact ⟨placeI v 60 - 20, rfl, by omega, by omega⟩
def textN (t : List Int) : List Nat := (t.take 8).map fun v => (placeI v 3).toNat
theorem textN_len (t : List Int) : (textN t).length ≤ 8 := by simp [textN]; omega
theorem textN_lt (t : List Int) : ∀ b ∈ textN t, b < 3 := by
  intro b hb
  simp only [textN, List.mem_map] at hb
  obtain ⟨v, _, rfl⟩ := hb
  have := placeI_range v 3 (by omega)
  omega
theorem one_u8m (bs : List Nat) : ∀ u ∈ u8s bs, u.oneCell' = true := by
  intro u hu; simp only [u8s, List.mem_map] at hu; obtain ⟨z, _, rfl⟩ := hu; rfl
set_option maxRecDepth 100000 in
set_option maxHeartbeats 2000000 in
theorem text_any (A : Option Addr) (n c : Nat) (zs : List Int) (w : World) (hnc : n ≤ c) (hcm : c ≤ 9223372036854775807) (h : Sl w 1 A n (ints zs)) : Calls Tryz.prog 7 #[.slice A n c] w fun e w' =>
    ∃ s : ByteArray, e = .returned (.string s) ∧ bl s = textN zs ∧ Below w.heap.size w w' := by
  have hzl : zs.length = n := by have := h.1; simp [ints] at this; omega
  go_enter Tryz.func7, Tryz.ntmps7
  go_wp2_with fail
  go_loopw [3, 4] (fun bv iv wr => ∃ (k : Nat) (A' : Option Addr) (c' : Nat), k ≤ n ∧ k ≤ 8 ∧ bv = .slice A' k c' ∧ iv = .int .i64 (k : Int) ∧ Below w.heap.size w wr ∧
    wr.ownsRow w.heap.size 5 1 (.slice A' k c') k (u8s ((zs.take k).map fun v => (placeI v 3).toNat)) ∧ (k = 0 → A' = none ∧ c' = 0)) (fun _ iv _ => n - (intOf iv).toNat)
  case atStart => exact ⟨0, none, 0, by omega, by omega, rfl, rfl, Below.refl _ _, own_nil, fun _ => ⟨rfl, rfl⟩⟩
  case round =>
    obtain ⟨wo, rfl⟩ : ∃ wo : World, wo = wr := ⟨_, rfl⟩
    obtain ⟨k, A', c', hk, hk8, rfl, rfl, hbr, hown, hnil⟩ := hrel
    have hgr := hbr.size
    by_cases hlt : k < n
    · by_cases hl8 : k < 8
      · have hkl : k < zs.length := by omega
        obtain ⟨b, off, rfl, hb, hc⟩ := (h.below hbr).2 (by omega)
        have d0 : wo.cell? ⟨b, off + k, none⟩ = some (.int .i64 zs[k]) := hc k _ (by simp [ints, List.getElem?_eq_getElem hkl])
        have htk := List.take_succ_eq_append_getElem (l := zs) hkl
        obtain ⟨z, hz⟩ : ∃ z, zs[k] = z := ⟨_, rfl⟩
        rw [hz] at d0 htk
        have HTK := Lib.hid htk
        have HPl := Lib.hid fun W => Place_any z 3 W (by omega) (by omega)
        obtain ⟨p, hp⟩ : ∃ p, placeI z 3 = p := ⟨_, rfl⟩
        have hr := placeI_range z 3 (by omega)
        rw [hp] at hr HPl
        obtain ⟨pn, rfl⟩ : ∃ pn : Nat, p = pn := ⟨p.toNat, by omega⟩
        have HPP := Lib.hid hp
        clear hz htk hc hp
        have hcv : IntKind.u8.wrap (pn : Int) = (pn : Int) := by
          rcases (show pn = 0 ∨ pn = 1 ∨ pn = 2 by omega) with rfl | rfl | rfl <;> rfl
        go_wp2_with fail
        refine (HPl.out _).mono ?_; rintro e w' ⟨rfl, rfl⟩
        go_wp2_with (first
          | (at_builtin; refine wpList_app rfl _ _ 62 rfl w.heap.size u8T rfl (own_below hown (bal (Below.refl _ _) _)) (u8s [pn]) rfl (sl_new _ rfl rfl) (one_u8m _) (by omega) (by simp; omega) ?_; intro A3 c3 w3 hown3 hg3 hat3)
          | fail)
        go_roundw
        case rel => exact ⟨k + 1, A3, c3, by omega, by omega, rfl, by go_num, grown_below (bal hbr _) hg3 (own_below hown (bal (Below.refl _ _) _)), by rw [HTK.out, List.map_append]; simp only [List.map_cons, List.map_nil, HPP.out, Int.toNat_natCast]; simpa [u8s] using hown3, fun h => by omega⟩
        case measure => (simp [intOf]) <;> omega
      · obtain rfl : k = 8 := by omega
        have htx : (zs.take 8).map (fun v => (placeI v 3).toNat) = textN zs := rfl
        rw [htx] at hown
        have hbb := bl_nat (fun b hb => Nat.lt_trans (textN_lt zs b hb) (show 3 < 256 by omega))
        obtain ⟨B, hB⟩ : ∃ B, textN zs = B := ⟨_, rfl⟩
        have HB := Lib.hid hB
        rw [hB] at hown hbb
        have hcv0 := sl_str (c := c') (own_sl hown) (by omega)
        obtain ⟨S, hS⟩ : ∃ S, strOfNums (B.map Int.ofNat) = S := ⟨_, rfl⟩
        rw [hS] at hcv0 hbb
        clear hB hS htx
        go_wp2
        go_ret
        exact ⟨_, rfl, hbb.trans HB.out.symm, hbr⟩
    · obtain rfl : k = n := by omega
      have htx : (zs.take k).map (fun v => (placeI v 3).toNat) = textN zs := by
        unfold textN
        rw [List.take_of_length_le (by omega), List.take_of_length_le (by omega)]
      rw [htx] at hown
      by_cases hk0 : k = 0
      · subst hk0
        have hz0 : zs = [] := List.eq_nil_of_length_eq_zero hzl
        obtain ⟨rfl, rfl⟩ := hnil rfl
        have hcvn : (convert 62 9 (.slice none 0 0)).run Tryz.prog wo = .ok (.string ByteArray.empty) wo := by kernel_rfl
        go_wp2
        go_ret
        exact ⟨_, rfl, rfl, hbr⟩
      · have hbb := bl_nat (fun b hb => Nat.lt_trans (textN_lt zs b hb) (show 3 < 256 by omega))
        obtain ⟨B, hB⟩ : ∃ B, textN zs = B := ⟨_, rfl⟩
        have HB := Lib.hid hB
        rw [hB] at hown hbb
        have hcv0 := sl_str (c := c') (own_sl hown) (by omega)
        obtain ⟨S, hS⟩ : ∃ S, strOfNums (B.map Int.ofNat) = S := ⟨_, rfl⟩
        rw [hS] at hcv0 hbb
        clear hB hS htx
        go_wp2
        go_ret
        exact ⟨_, rfl, hbb.trans HB.out.symm, hbr⟩
end Go.Proofs.YtaphmonpdnbiiaaGreat

namespace Go.Proofs.YtaphmonpdnbiiaaGreat
open Go.RowKit Go.BigFrame

theorem InA.sl {w : World} {A : Option Addr} {n : Nat} (h : InA w A n) : ∃ zs, Sl w 1 A n (ints zs) := by
  rcases Nat.eq_zero_or_pos n with rfl | h0
  · exact ⟨[], Sl.nil_⟩
  · obtain ⟨b, off, rfl, hlt, hz⟩ := h h0
    refine ⟨(List.range n).map fun j => intOf ((w.cell? ⟨b, off + j, none⟩).getD undef), by simp [ints], fun _ => ⟨b, off, rfl, hlt, fun j u hu => ?_⟩⟩
    rw [ints, List.map_map, List.getElem?_map] at hu
    by_cases hj : j < n
    · obtain ⟨z, hz⟩ := hz j hj
      rw [List.getElem?_range hj] at hu
      simp only [Option.map_some, Function.comp_apply, Option.some.injEq] at hu
      rw [← hu, hz]; rfl
    · rw [List.getElem?_eq_none (by simp; omega)] at hu
      cases hu
/-- A new block into which a font is written whole, and one for a matrix. -/
theorem put_FM {W : World} {C : List Value} (M : Mt) (h9 : C.length = 9) : ∃ W1 W2, W1 = ((W.alloc (.cells foZ.toArray 30)).alloc (.cells (mtC zeroM).toArray 25)).setCells W.heap.size 0 C ∧ W2 = W1.setCells (W.heap.size + 1) 0 (mtC M) ∧
    BC ((W.alloc (.cells foZ.toArray 30)).alloc (.cells (mtC zeroM).toArray 25)) W.heap.size foZ ∧ BC W1 (W.heap.size + 1) (mtC zeroM) ∧ BC W2 W.heap.size C ∧ BC W2 (W.heap.size + 1) (mtC M) ∧ Below W.heap.size W W2 := by
  have b0 : BC ((W.alloc (.cells foZ.toArray 30)).alloc (.cells (mtC zeroM).toArray 25)) W.heap.size foZ := (BC.new foZ 30 rfl).below (bal (Below.refl _ _) _)
  have m0 : BC ((W.alloc (.cells foZ.toArray 30)).alloc (.cells (mtC zeroM).toArray 25)) (W.heap.size + 1) (mtC zeroM) := BC.new (w := W.alloc _) (mtC zeroM) 25 (by simp)
  have b1 := b0.putAll C (by rw [h9]; rfl)
  have m1 := m0.apart (show W.heap.size + 1 ≠ W.heap.size by omega) 0 C
  have m2 := m1.putAll (mtC M) rfl
  have b2 := b1.apart (show W.heap.size ≠ W.heap.size + 1 by omega) 0 (mtC M)
  exact ⟨_, _, rfl, rfl, b0, m1, b2, m2, below_setCells (by omega) _ _ _ (below_setCells (Nat.le_refl _) _ _ _ (bal (bal (Below.refl _ _) _) _))⟩
theorem one_foC {w : World} {F : Fo} {C : List Value} (h : FoAt w F C) : ∀ v ∈ C, v.oneCell' = true := by
  obtain ⟨ok, A, B, E, c, d, e, rfl, h1, h2, h3⟩ := h
  intro v hv
  simp only [foC, List.mem_cons, List.not_mem_nil, or_false] at hv
  rcases hv with rfl | rfl | rfl | rfl | rfl | rfl | rfl | rfl | rfl <;> rfl
theorem fo_c0 {w : World} {F : Fo} {C : List Value} (h : FoAt w F C) : C[0]? = some (.int .i64 F.m.a) := by
  obtain ⟨ok, A, B, E, c, d, e, rfl, h1, h2, h3⟩ := h; rfl
theorem fo_mat {w : World} {F : Fo} {C : List Value} (h : FoAt w F C) : ∃ N L K, C = foC F.m N L K := by
  obtain ⟨ok, A, B, E, c, d, e, rfl, h1, h2, h3⟩ := h; exact ⟨_, _, _, rfl⟩
theorem font_is {F : Fo} (h : MadeF F) : ∃ k, (1 ≤ k ∧ k ≤ 3) ∧ F.m = scaleM k := by obtain ⟨k, a, b, c⟩ := h.m; exact ⟨k, ⟨a, b⟩, c⟩
theorem made_fair {F : Fo} (h : MadeF F) {m : Mt} {x y : Int} (hm : mtB m = true) (hx : fixB x = true) (hy : fixB y = true) : fairF F m x y = true := by
  unfold fairF; rw [h.open, hm, hx, hy]; rfl
theorem pathF_made {F : Fo} (h : MadeF F) {m : Mt} {x y : Int} (hm : mtB m = true) (hx : fixB x = true) (hy : fixB y = true) {ch : Nat} {L : List Sg} {wd : Int} (hr : runF F ch = ((L, wd), 0)) : pathF F m x y ch = placeF F m x y L := by
  unfold pathF; rw [show fairF F m x y = true from made_fair h hm hx hy, hr]; simp
theorem outF_made {F : Fo} (h : MadeF F) {m : Mt} {x y : Int} (hm : mtB m = true) (hx : fixB x = true) (hy : fixB y = true) (s : List Nat) : outF F m x y s = outS F m [] x y s := by
  unfold outF; rw [made_fair h hm hx hy]; rfl
theorem wideF_made {F : Fo} (h : MadeF F) {ch : Nat} {L : List Sg} {wd : Int} (hr : runF F ch = ((L, wd), 0)) : wideF F ch = (wd, 0) := by
  unfold wideF; rw [h.open, hr]; rfl
theorem fix_p {p : Int} (h : Bd 16383 p) : fixB (p * 65536) = true := fixB_of (by unfold Bd at *; omega) (by unfold Bd at *; omega)
/-- The matrix that changes nothing. -/
theorem ow_one {F : Fo} {k : Int} (h : MadeF F) (hk : 1 ≤ k ∧ k ≤ 3) (hm : F.m = scaleM k) {q : Int} (hq : Bd 4000 q) : OWOK F k 1 0 0 1 0 0 q := by
  refine ⟨h, hm, hk, ⟨?_, ?_, ?_, ?_, ?_, ?_⟩, ?_, fun p hp => ⟨?_, ?_, ?_, ?_, ?_, ?_⟩⟩ <;> unfold Bd at * <;> (try simp) <;> omega
end Go.Proofs.YtaphmonpdnbiiaaGreat
