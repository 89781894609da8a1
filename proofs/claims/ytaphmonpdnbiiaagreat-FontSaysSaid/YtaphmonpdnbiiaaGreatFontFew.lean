/- tympanlaw41: few. -/
import Derived.Test.YtaphmonpdnbiiaaGreatFontOp
import Derived.Test.YtaphmonpdnbiiaaGreatMF1
namespace Go.Proofs.YtaphmonpdnbiiaaGreat
open Go.RowKit Go.BigFrame

def fewLe (x : Le) : Bool := decide (x.name.size ≤ 300) && decide (x.prog.size ≤ 1000)
def fewF (F : Fo) : Bool := decide (F.names.length ≤ 300) && decide (F.lets.length ≤ 40) && decide (F.kern.length ≤ 300) && F.lets.all fewLe
theorem FoRd.few {w : World} {F : Fo} {C : List Value} (h : FoRd w F C) (hf : fewF F = true) : FoAt w F C := by
  unfold fewF at hf
  simp only [Bool.and_eq_true, decide_eq_true_eq] at hf
  obtain ⟨⟨⟨f1, f2⟩, f3⟩, f4⟩ := hf
  rw [List.all_eq_true] at f4
  refine ⟨⟨by omega, by omega, by omega, h.ns, fun x hx => ?_⟩, h.at_⟩
  have := f4 x hx
  unfold fewLe at this
  simp only [Bool.and_eq_true, decide_eq_true_eq] at this
  unfold SzOK
  omega
set_option maxRecDepth 100000 in
set_option maxHeartbeats 2000000 in
theorem few_any (F : Fo) (C : List Value) (w : World) (h : FoRd w F C) : Calls Tryz.prog 15 #[.agg C.toArray] w fun e w' => e = .returned (.bool (fewF F)) ∧ Below w.heap.size w w' := by
  obtain ⟨hnl, hll, hkl, hns, hls, A, B, E, ca, cb, ce, rfl, h1, h2, h3⟩ := h
  obtain ⟨w0, hw0⟩ : ∃ w0 : World, w0 = w.alloc (.cells (foC F.m (.slice A F.names.length ca) (.slice B F.lets.length cb) (.slice E F.kern.length ce)).toArray 30) := ⟨_, rfl⟩
  have hB0 : Below w.heap.size w w0 := by rw [hw0]; exact bal (Below.refl _ _) _
  have hA : BC w0 w.heap.size (foC F.m (.slice A F.names.length ca) (.slice B F.lets.length cb) (.slice E F.kern.length ce)) := by rw [hw0]; exact BC.new _ 30 rfl
  obtain ⟨R, hR⟩ : ∃ R, fewF F = R := ⟨_, rfl⟩
  have hO : R = (decide (F.names.length ≤ 300) && decide (F.lets.length ≤ 40) && decide (F.kern.length ≤ 300) && F.lets.all fewLe) := hR.symm
  have HO := Lib.hid hO
  rw [hR]
  have HSZ := Lib.hid hls
  have hs2 := h2.below hB0
  obtain ⟨n1, hn1⟩ : ∃ n, F.names.length = n := ⟨_, rfl⟩
  obtain ⟨n2, hn2⟩ : ∃ n, F.lets.length = n := ⟨_, rfl⟩
  obtain ⟨n3, hn3⟩ : ∃ n, F.kern.length = n := ⟨_, rfl⟩
  have HN2 := Lib.hid hn2
  rw [hn1, hn2, hn3] at HO
  rw [hn1] at hnl
  rw [hn2] at hll hs2
  rw [hn3] at hkl
  rw [hn1, hn2, hn3] at hw0 hA ⊢
  clear hn1 hn2 hn3 h1 h2 h3 hR hO hns hls
  have l1 : IntKind.i64.wrap (n1 : Int) = n1 := IntWalk.i64_in _ (by omega)
  have l2 : IntKind.i64.wrap (n2 : Int) = n2 := IntWalk.i64_in _ (by omega)
  have l3 : IntKind.i64.wrap (n3 : Int) = n3 := IntWalk.i64_in _ (by omega)
  have a6 := hA.c 6 _ rfl
  have a7 := hA.c 7 _ rfl
  have a8 := hA.c 8 _ rfl
  go_enter Tryz.func15, Tryz.ntmps15
  go_upto_region 1 with (fail)
  rw [← hw0]
  clear hw0
  by_cases g1 : 300 < n1
  · have HE := Lib.hid (show R = false by rw [HO.out, decide_eq_false (show ¬ n1 ≤ 300 by omega)]; rfl)
    have g1' : decide (300 < (n1 : Int)) = true := by simp; omega
    clear HO g1
    go_wp2
    go_ret
    exact ⟨by rw [HE.out]; rfl, hB0⟩
  have g1' : decide (300 < (n1 : Int)) = false := by simp; omega
  by_cases g2 : 40 < n2
  · have HE := Lib.hid (show R = false by rw [HO.out, decide_eq_false (show ¬ n2 ≤ 40 by omega)]; simp)
    have g2' : decide (40 < (n2 : Int)) = true := by simp; omega
    clear HO g1 g2
    go_wp2
    go_ret
    exact ⟨by rw [HE.out]; rfl, hB0⟩
  have g2' : decide (40 < (n2 : Int)) = false := by simp; omega
  by_cases g3 : 300 < n3
  · have HE := Lib.hid (show R = false by rw [HO.out, decide_eq_false (show ¬ n3 ≤ 300 by omega)]; simp)
    have g3' : decide (300 < (n3 : Int)) = true := by simp; omega
    clear HO g1 g2 g3
    go_wp2
    go_ret
    exact ⟨by rw [HE.out]; rfl, hB0⟩
  have g3' : decide (300 < (n3 : Int)) = false := by simp; omega
  have HQ := Lib.hid (show R = F.lets.all fewLe by rw [HO.out, decide_eq_true (show n1 ≤ 300 by omega), decide_eq_true (show n2 ≤ 40 by omega), decide_eq_true (show n3 ≤ 300 by omega)]; simp)
  clear HO g1 g2 g3
  go_wp2_with fail
  go_loopw [3] (fun i wr => ∃ k, k ≤ n2 ∧ i = .int .i64 (k : Int) ∧ Below w0.heap.size w0 wr ∧ Hid ((F.lets.take k).all fewLe = true)) (fun i _ => n2 - (intOf i).toNat)
  case atStart => exact ⟨0, by omega, rfl, Below.refl _ _, Lib.hid rfl⟩
  case round =>
    obtain ⟨wo, rfl⟩ : ∃ wo : World, wo = wr := ⟨_, rfl⟩
    obtain ⟨k, hk, rfl, hbr, hal⟩ := hrel
    have a7o := (hA.below hbr).c 7 _ rfl
    have B1 := btr hB0 hbr
    by_cases hlt : k < n2
    · have hkk : k < F.lets.length := by rw [HN2.out]; exact hlt
      obtain ⟨b, off, rfl, hb, d0, d1⟩ := (hs2.below hbr).le k hlt hkk
      have hz := HSZ.out F.lets[k] (List.getElem_mem hkk)
      have hno := all_no (f := fewLe) hkk
      have hyes := all_yes (f := fewLe) hkk hal.out
      obtain ⟨x, hx⟩ : ∃ x, x = F.lets[k] := ⟨_, rfl⟩
      rw [← hx] at d0 d1 hno hyes hz
      have HNO := Lib.hid hno
      have HYES := Lib.hid hyes
      have hlen : IntKind.i64.wrap (x.name.size : Int) = x.name.size := IntWalk.i64_in _ (by have := hz.1; omega)
      have hlen2 : IntKind.i64.wrap (x.prog.size : Int) = x.prog.size := IntWalk.i64_in _ (by have := hz.2; omega)
      clear hx hno hyes hz
      by_cases c2 : 300 < x.name.size
      · have HE := Lib.hid (show R = false by rw [HQ.out, HNO.out (by unfold fewLe; rw [decide_eq_false (show ¬ x.name.size ≤ 300 by omega)]; rfl)])
        have c2' : decide (300 < (x.name.size : Int)) = true := by simp; omega
        clear HNO HYES HQ c2
        go_wp2
        go_ret
        exact ⟨by rw [HE.out]; rfl, B1⟩
      have c2' : decide (300 < (x.name.size : Int)) = false := by simp; omega
      by_cases c3 : 1000 < x.prog.size
      · have HE := Lib.hid (show R = false by rw [HQ.out, HNO.out (by unfold fewLe; rw [decide_eq_false (show ¬ x.prog.size ≤ 1000 by omega), Bool.and_false])])
        have c3' : decide (1000 < (x.prog.size : Int)) = true := by simp; omega
        clear HNO HYES HQ c2 c3
        go_wp2
        go_ret
        exact ⟨by rw [HE.out]; rfl, B1⟩
      have c3' : decide (1000 < (x.prog.size : Int)) = false := by simp; omega
      have HA := Lib.hid (HYES.out (by unfold fewLe; rw [decide_eq_true (show x.name.size ≤ 300 by omega), decide_eq_true (show x.prog.size ≤ 1000 by omega)]; rfl))
      clear HNO HYES c2 c3
      go_wp2_with fail
      go_roundw
      case rel => exact ⟨k + 1, by omega, by go_num, hbr, HA⟩
      case measure => (simp [intOf]) <;> omega
    · obtain rfl : k = n2 := by omega
      have hall := hal.out
      rw [List.take_of_length_le (by rw [HN2.out]; omega)] at hall
      have HE := Lib.hid (show R = true by rw [HQ.out, hall])
      clear hall hal HQ
      go_wp2
      go_ret
      exact ⟨by rw [HE.out]; rfl, B1⟩
end Go.Proofs.YtaphmonpdnbiiaaGreat
