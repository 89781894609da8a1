/- StateLetters: the walk. -/
import Derived.Test.YtdfkbbcoolgfiaaGreatRLet
import Derived.Test.YtdfkbbcoolgfiaaGreatMOp
import Derived.Test.YtdfkbbcoolgfiaaGreatMTh
import Derived.Test.YtdfkbbcoolgfiaaGreatFontOp
namespace Go.Proofs.YtdfkbbcoolgfiaaGreat
open Go.RowKit Go.Maps Go.BigFrame

theorem FoRd.small {w : World} {F : Fo} {C : List Value} (h : FoRd w F C) (h1 : F.names.length ≤ 300) (h2 : F.lets.length ≤ 20) (h3 : F.kern.length ≤ 30) : FoAt w F C :=
  ⟨⟨by omega, by omega, by omega, h.ns, fun x hx => h.ls x hx⟩, h.at_⟩
theorem put_newL {W : World} {vs : List Value} (hl : vs.length = 21) : ∃ W', W' = (W.alloc (.cells (itC zeroI (.slice none 0 0) (.slice none 0 0)).toArray 40)).setCells W.heap.size 0 vs ∧ BC W' W.heap.size vs ∧
    Below W.heap.size W W' ∧ BC (W.alloc (.cells (itC zeroI (.slice none 0 0) (.slice none 0 0)).toArray 40)) W.heap.size (itC zeroI (.slice none 0 0) (.slice none 0 0)) := by
  have h := BC.new (w := W) (g := W.heap.size) (itC zeroI (.slice none 0 0) (.slice none 0 0)) 40 rfl
  exact ⟨_, rfl, h.putAll vs (by rw [hl]; rfl), below_setCells (Nat.le_refl _) _ _ _ (bal (Below.refl _ _) _), h⟩
theorem letters_few {x : St} {F : Fo} {s : List Nat} (hf : stFew x) : itFew (lettersS x F s).1.1 := by
  have hz : ∀ e, itFew (noL e).1.1 := fun e => ⟨Nat.zero_le _, Nat.zero_le _, fun c hc => by cases hc⟩
  obtain ⟨f1, f2, f3, f4⟩ := hf
  unfold lettersS
  split
  · exact hz _
  split
  · exact hz _
  split
  · exact hz _
  split
  · exact hz _
  · exact ⟨Nat.le_trans (outF_lenL _ _ _ _ _) (by omega), f2, f3⟩
theorem ItAt.one {w : World} {y : It} {P C : Value} (h : ItAt w y P C) : ∀ v ∈ itC y P C, v.oneCell' = true := by
  obtain ⟨_, _, rfl, _⟩ := h.p
  obtain ⟨_, _, rfl, _⟩ := h.c
  exact itC_one rfl rfl
set_option maxRecDepth 100000 in
set_option maxHeartbeats 4000000 in
theorem StateLetters_any (x : St) (P C D : Value) (F : Fo) (Cf : List Value) (s : ByteArray) (w : World) (h : StAt w x P C D) (hr : stReach x) (hRd : FoRd w F Cf) (hsz : s.size ≤ 9223372036854775807) :
    Calls Tryz.prog 4 #[.agg (stC x P C D).toArray, .agg Cf.toArray, .string s] w fun e w' => e = .returned (.bool true) ∧ Below w.heap.size w w' := by
  have HAT := Lib.hid fun (g1 : F.names.length ≤ 300) (g2 : F.lets.length ≤ 20) (g3 : F.kern.length ≤ 30) W (hq : Below w.heap.size w W) => (hRd.small g1 g2 g3).below hq
  obtain ⟨hnl, hll, hkl, hns, hls, A, B, E, ca, cb, ce, rfl, h1, h2, h3⟩ := hRd
  obtain ⟨n1, hn1⟩ : ∃ n, F.names.length = n := ⟨_, rfl⟩
  obtain ⟨n2, hn2⟩ : ∃ n, F.lets.length = n := ⟨_, rfl⟩
  obtain ⟨n3, hn3⟩ : ∃ n, F.kern.length = n := ⟨_, rfl⟩
  rw [hn1] at hnl
  rw [hn2] at hll
  rw [hn3] at hkl
  rw [hn1, hn2, hn3] at HAT ⊢
  clear hn1 hn2 hn3 h1 h2 h3 hns hls
  have l1 : IntKind.i64.wrap (n1 : Int) = n1 := IntWalk.i64_in _ (by omega)
  have l2 : IntKind.i64.wrap (n2 : Int) = n2 := IntWalk.i64_in _ (by omega)
  have l3 : IntKind.i64.wrap (n3 : Int) = n3 := IntWalk.i64_in _ (by omega)
  have hss : IntKind.i64.wrap (s.size : Int) = s.size := IntWalk.i64_in _ (by omega)
  obtain ⟨w0, hw0⟩ : ∃ w0 : World, w0 = (w.alloc (.cells (stC x P C D).toArray 32)).alloc (.cells (foC F.m (.slice A n1 ca) (.slice B n2 cb) (.slice E n3 ce)).toArray 56) := ⟨_, rfl⟩
  have Q : Below w.heap.size w w0 := by rw [hw0]; exact bal (bal (Below.refl _ _) _) _
  have hS : BC w0 w.heap.size (stC x P C D) := by rw [hw0]; exact (BC.new (stC x P C D) 32 rfl).below (bal (Below.refl _ _) _)
  have hF : BC w0 (w.heap.size + 1) (foC F.m (.slice A n1 ca) (.slice B n2 cb) (.slice E n3 ce)) := by rw [hw0]; exact BC.new (w := w.alloc _) (foC F.m (.slice A n1 ca) (.slice B n2 cb) (.slice E n3 ce)) 56 (by simp)
  obtain ⟨gF, hgF⟩ : ∃ g, g = w.heap.size + 1 := ⟨_, rfl⟩
  obtain ⟨gS, hgS⟩ : ∃ g, g = w.heap.size := ⟨_, rfl⟩
  have E2 := Lib.hid hgF
  have E3 := Lib.hid hgS
  rw [← hgF] at hF
  rw [← hgS] at hS
  have HFW := Lib.hid fun W (hq : Below w.heap.size w W) => few_any x P C D W (h.below hq) hr
  have HST := Lib.hid fun W (hq : Below w.heap.size w W) => h.below hq
  clear h hr hgF hgS
  go_enter Tryz.func4, Tryz.ntmps4
  go_upto_region 1 with (fail)
  rw [← hw0, ← E2.out, ← E3.out]
  clear hw0 E2 E3
  go_wp2_with fail
  refine (known42_any _).mono ?_; rintro e w1 ⟨rfl, b1⟩
  replace Q := btr Q b1
  replace hS := hS.below b1
  replace hF := hF.below b1
  clear b1
  go_wp2_with (first
    | (refine wpList_load_rec rfl _ _ rfl gS rfl _ 24 stateT hS rfl ?_)
    | fail)
  refine (HFW.out _ Q).mono ?_; rintro e w2 ⟨rfl, b1⟩
  replace Q := btr Q b1
  replace hS := hS.below b1
  replace hF := hF.below b1
  clear b1 HFW
  have a6 := hF.c 6 _ rfl
  have a7 := hF.c 7 _ rfl
  have a8 := hF.c 8 _ rfl
  cases hfew : fewB x
  · go_wp2
    go_ret
    exact ⟨rfl, Q⟩
  have hfw := Lib.hid (fewB_few hfew)
  clear hfew
  by_cases g0 : 30 < s.size
  · have g0' : decide (30 < (s.size : Int)) = true := by simp; omega
    clear g0
    go_wp2
    go_ret
    exact ⟨rfl, Q⟩
  have g0' : decide (30 < (s.size : Int)) = false := by simp; omega
  by_cases g2 : 20 < n2
  · have g2' : decide (20 < (n2 : Int)) = true := by simp; omega
    clear g2 g0
    go_wp2
    go_ret
    exact ⟨rfl, Q⟩
  have g2' : decide (20 < (n2 : Int)) = false := by simp; omega
  by_cases g1 : 300 < n1
  · have g1' : decide (300 < (n1 : Int)) = true := by simp; omega
    clear g2 g0 g1
    go_wp2
    go_ret
    exact ⟨rfl, Q⟩
  have g1' : decide (300 < (n1 : Int)) = false := by simp; omega
  by_cases g3 : 30 < n3
  · have g3' : decide (30 < (n3 : Int)) = true := by simp; omega
    clear g2 g0 g1 g3
    go_wp2
    go_ret
    exact ⟨rfl, Q⟩
  have g3' : decide (30 < (n3 : Int)) = false := by simp; omega
  have hz : s.size ≤ 1000000 := by omega
  have HFA := Lib.hid (HAT.out (by omega) (by omega) (by omega))
  obtain ⟨⟨⟨I, xR, yR⟩, er⟩, hY⟩ : ∃ Y, lettersS x F (bl s) = Y := ⟨_, rfl⟩
  have HIF := Lib.hid (show itFew I by have := letters_few (F := F) (s := bl s) hfw.out; rw [hY] at this; exact this)
  have HL1 := Lib.hid fun W (hq : Below w.heap.size w W) => stLetters_any x P C D F _ s ((I, xR, yR), er) W (HST.out W hq) (HFA.out W hq) hz hY
  have HL2 := Lib.hid fun W (hq : Below w.heap.size w W) => rLetters_any x P C D F _ s ((I, xR, yR), er) W (HST.out W hq) hfw.out (HFA.out W hq) hz hY
  simp only at HL1 HL2
  clear g0 g1 g2 g3 hz hY HAT HST hnl hll hkl hsz HFA hfw
  go_upto_region 5 with (fail)
  clear a6 a7 a8
  go_wp2_with (first
    | (refine wpList_load_rec rfl _ _ rfl gS rfl _ 24 stateT hS rfl ?_)
    | (refine wpList_load_rec rfl _ _ rfl gF rfl _ 9 foT hF rfl ?_)
    | fail)
  refine (HL1.out _ Q).mono ?_; rintro e w3 ⟨P1, C1, rfl, hi1, b1⟩
  replace Q := btr Q b1
  replace hS := hS.below b1
  replace hF := hF.below b1
  have one1 := hi1.one
  obtain ⟨w4, hw4, N4, b4, Z4⟩ := put_newL (W := w3) (vs := itC I P1 C1) rfl
  have HW4 := Lib.hid hw4
  rw [zeroI_lit] at Z4 HW4
  replace Q := btr Q b4
  replace hS := hS.below b4
  replace hF := hF.below b4
  replace hi1 := hi1.below b4
  clear hw4 b1 b4 HL1
  go_upto_region 6 with (first
    | (refine wpList_store_rec rfl _ _ _ rfl w3.heap.size (itC I P1 C1) _ rfl rfl 21 itT Z4 rfl rfl one1 ?_; rw [← HW4.out])
    | fail)
  clear Z4 HW4 one1
  go_wp2_with (first
    | (refine wpList_load_rec rfl _ _ rfl gS rfl _ 24 stateT hS rfl ?_)
    | (refine wpList_load_rec rfl _ _ rfl gF rfl _ 9 foT hF rfl ?_)
    | fail)
  refine (HL2.out _ Q).mono ?_; rintro e w5 ⟨P2, C2, rfl, hi2, b1⟩
  replace Q := btr Q b1
  replace N4 := N4.below b1
  replace hi1 := hi1.below b1
  have one2 := hi2.one
  obtain ⟨w6, hw6, N6, b6, Z6⟩ := put_newL (W := w5) (vs := itC I P2 C2) rfl
  have HW6 := Lib.hid hw6
  rw [zeroI_lit] at Z6 HW6
  replace Q := btr Q b6
  replace N4 := N4.below b6
  replace hi1 := hi1.below b6
  replace hi2 := hi2.below b6
  clear hw6 b1 b6 HL2 hS hF
  go_upto_region 7 with (first
    | (refine wpList_store_rec rfl _ _ _ rfl w5.heap.size (itC I P2 C2) _ rfl rfl 21 itT Z6 rfl rfl one2 ?_; rw [← HW6.out])
    | fail)
  clear Z6 HW6 one2
  go_wp2_with (first
    | (refine wpList_load_rec rfl _ _ rfl w3.heap.size rfl _ 21 itT N4 rfl ?_)
    | (refine wpList_load_rec rfl _ _ rfl w5.heap.size rfl _ 21 itT N6 rfl ?_)
    | fail)
  refine (helpItem_any I P1 C1 P2 C2 _ hi1 hi2 HIF.out).mono ?_; rintro e w7 ⟨rfl, b1⟩
  go_wp2_with fail
  go_ret
  exact ⟨rfl, btr Q b1⟩
end Go.Proofs.YtdfkbbcoolgfiaaGreat
