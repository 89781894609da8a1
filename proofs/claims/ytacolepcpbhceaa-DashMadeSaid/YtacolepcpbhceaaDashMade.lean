/- The walk of DashMade: it returns true. -/
import Derived.Test.YtacolepcpbhceaaDashR6
import Derived.Test.YtacolepcpbhceaaDash7
import Derived.Test.YtacolepcpbhceaaDashMadeP
namespace Go.Proofs.Ytacolepcpbhceaa
open Go.RowKit

theorem ref_Cut_is (A A0 : Option Addr) (n c n0 c0 : Nat) (l : List Sg) (on : List Int) (f : Int) (L : List Sg) (er : Int) (m : Nat) (w : World) (h : Sl w 5 A n (sgs l)) (hok : mayB l = true) (hb : ∀ s ∈ l, s.kind ≠ 3)
    (ho : Sl w 1 A0 n0 (ints on)) (hon : OnOK on) (hf : 0 ≤ f ∧ f ≤ 2147483647) (hr : cutL on f l = (L, er)) (hm : L.length = m) :
    Calls Try.prog 16 #[.slice A n c, .slice A0 n0 c0, .int .i64 f] w fun e w' => ∃ A' c', e = .returned (.tuple #[.slice A' m c', .int .i64 er]) ∧ w'.ownsRow w.heap.size 36 5 (.slice A' m c') m (sgs L) ∧ Below w.heap.size w w' := by
  subst hm
  rcases hon with rfl | ⟨h1, h2⟩
  · have hl := ho.intlen
    obtain rfl : 0 = n0 := by simpa using hl
    obtain ⟨rfl, rfl⟩ := Prod.mk.inj hr
    exact (ref_Cut_nil A A0 n c c0 l f w h hok hb hf).mono fun _ _ ⟨A', c', h1, h2, h3⟩ => ⟨A', c', h1, h2, h3⟩
  · refine (ref_Cut_row A A0 n c n0 c0 l on f w h hok hb ho h1 h2 hf).mono fun _ _ ⟨A', c', h1, h2, h3⟩ => ?_
    rw [hr] at h1 h2
    exact ⟨A', c', h1, h2, h3⟩
theorem dash_May_is (A : Option Addr) (n c : Nat) (on : List Int) (w : World) (h : Sl w 1 A n (ints on)) (hon : OnOK on) :
    Calls Try.prog 17 #[.slice A n c] w fun e w' => e = .returned (.bool true) ∧ w = w' := by
  rcases hon with rfl | ⟨h1, h2⟩
  · have hl := h.intlen
    obtain rfl : 0 = n := by simpa using hl
    exact dash_May_nil c A w
  · exact dash_May_any A n c on w h h1 h2
theorem cut_err2 {on : List Int} {f : Int} {l L : List Sg} {er : Int} (h : cutL on f l = (L, er)) : er = 0 ∨ er = 5 := by
  unfold cutL at h
  split at h
  · exact .inl (Prod.mk.inj h).2.symm
  · split at h
    · exact .inr (Prod.mk.inj h).2.symm
    · exact .inl (Prod.mk.inj h).2.symm

set_option maxRecDepth 100000 in
set_option maxHeartbeats 4000000 in
theorem DashMade_any (A : Option Addr) (n c : Nat) (A' : Option Addr) (n' c' : Nat) (from_ : Int) (w : World) (h : InA w A n) (hnc : n ≤ c) (hcm : c ≤ 9223372036854775807)
    (h' : InA w A' n') (hnc' : n' ≤ c') (hcm' : c' ≤ 9223372036854775807) :
    Calls Try.prog 3 #[.slice A n c, .slice A' n' c', .int .i64 from_] w fun e w' => e = .returned (.bool true) ∧ Below w.heap.size w w' := by
  go_enter Try.func3, Try.ntmps3
  go_wp2_with fail
  refine (known35_any _).mono ?_; rintro e w1 ⟨rfl, hb1⟩
  go_wp2_with fail
  refine (Made_any A n c false w1 (h.below hb1) hnc hcm).mono ?_; rintro e w2 ⟨l, A2, c2, rfl, hown2, hmd2, hb2⟩
  have B2 : Below w.heap.size w w2 := btr hb1 hb2
  have hp2 := own_sl hown2
  clear hb1 hb2 hown2
  go_wp2_with fail
  refine (Lengths_any A' n' c' w2 (h'.below B2) hnc' hcm').mono ?_; rintro e w4 ⟨on, A4, c4, rfl, hown4, hlo, hb4⟩
  have B4 := btr B2 hb4
  have hp4 := hp2.below hb4
  have ho4 := own_sl hown4
  clear hb4 hown4 hp2 B2
  have hlm := hmd2.may
  have hlk := hmd2.2.2.2 rfl
  have hl12 := hmd2.2.1
  obtain ⟨ll, hll⟩ : ∃ x, l.length = x := ⟨_, rfl⟩
  obtain ⟨ol, hol⟩ : ∃ x, on.length = x := ⟨_, rfl⟩
  rw [hll] at hl12 hp4 ⊢
  rw [hol] at ho4 ⊢
  have HLM := Lib.hid hlm
  have HLK := Lib.hid hlk
  have HLL := Lib.hid hll
  have HOL := Lib.hid hol
  have HON : Hid (OnOK on) := hlo.1
  clear hmd2 hlm hlk hll hol hlo
  go_wp2_with fail
  refine (Place_any from_ 5000 _ (by omega) (by omega)).mono ?_; rintro e w' ⟨rfl, rfl⟩
  have hf : 0 ≤ placeI from_ 5000 ∧ placeI from_ 5000 < 5000 := by unfold placeI; omega
  generalize placeI from_ 5000 = f at *
  obtain ⟨⟨L, er⟩, hL⟩ : ∃ p, cutL on f l = p := ⟨_, rfl⟩
  have herr := cut_err2 hL
  have hmy := cutL_may (HON.out.imp id fun h => h.1) HLM.out HLK.out hL
  have hln : L.length ≤ 300 := (mayB_from hmy).2
  obtain ⟨lL, hlL⟩ : ∃ x, L.length = x := ⟨_, rfl⟩
  rw [hlL] at hln
  have HL := Lib.hid hL
  have HLL2 := Lib.hid hlL
  have HMY := Lib.hid hmy
  clear hL hlL hmy
  go_wp2_with fail
  refine (Cut_is _ _ _ _ _ _ l on f L er lL _ hp4 HLM.out HLK.out ho4 HON.out (by omega) HL.out HLL2.out).mono ?_
  rintro e w6 ⟨A6, c6, rfl, hown6, hb6⟩
  have B6 := btr B4 hb6
  have hp6 := hp4.below hb6
  have ho6 := ho4.below hb6
  have hx6 := own_sl hown6
  clear hb6 hown6 hp4 ho4 B4
  go_wp2_with fail
  refine (ref_Cut_is _ _ _ _ _ _ l on f L er lL _ hp6 HLM.out HLK.out ho6 HON.out (by omega) HL.out HLL2.out).mono ?_
  rintro e w7 ⟨A7, c7, rfl, hown7, hb7⟩
  have B7 := btr B6 hb7
  have ho7 := ho6.below hb7
  have hx7 := hx6.below hb7
  have hy7 := own_sl hown7
  clear hb7 hown7 hp6 ho6 hx6 B6
  go_wp2_with fail
  refine (dash_May_is _ _ _ on _ ho7 HON.out).mono ?_; rintro e w8 ⟨rfl, rfl⟩
  go_wp2_with fail
  refine (sameSg_any _ _ _ _ _ _ L _ (by omega) hx7 hy7).mono ?_; rintro e w9 ⟨rfl, q9, rfl⟩
  rcases herr with rfl | rfl
  all_goals
    go_wp2_with fail
    refine (path_May_any _ _ _ L _ (by omega) (hx7.drewN _)).mono ?_
    rintro e w10 ⟨rfl, hb10⟩
    go_wp2
    go_ret
    exact ⟨by rw [HMY.out]; rfl, btr (bdrewN B7 _) hb10⟩
end Go.Proofs.Ytacolepcpbhceaa
