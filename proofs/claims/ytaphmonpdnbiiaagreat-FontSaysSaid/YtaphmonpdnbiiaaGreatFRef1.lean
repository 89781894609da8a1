/- tympanref40: name, May, fair. -/
import Derived.Test.YtaphmonpdnbiiaaGreatMF1
import Derived.Test.YtaphmonpdnbiiaaGreatMSt
namespace Go.Proofs.YtaphmonpdnbiiaaGreat
open Go.RowKit Go.BigFrame

set_option maxRecDepth 100000 in
set_option maxHeartbeats 1000000 in
theorem rname_any (F : Fo) (C : List Value) (c : Nat) (w : World) (hc8 : c < 256) (h : FoAt w F C) : Calls Tryz.prog 44 #[.agg C.toArray, .int .u8 c] w fun e w' => e = .returned (.string (nameF F c)) ∧ Below w.heap.size w w' := by
  obtain ⟨ok, A, B, E, ca, cb, ce, rfl, h1, h2, h3⟩ := h
  have hl := ok.nl
  obtain ⟨w0, hw0⟩ : ∃ w0 : World, w0 = w.alloc (.cells (foC F.m (.slice A F.names.length ca) (.slice B F.lets.length cb) (.slice E F.kern.length ce)).toArray 30) := ⟨_, rfl⟩
  have hB0 : Below w.heap.size w w0 := by rw [hw0]; exact bal (Below.refl _ _) _
  have hA : BC w0 w.heap.size (foC F.m (.slice A F.names.length ca) (.slice B F.lets.length cb) (.slice E F.kern.length ce)) := by rw [hw0]; exact BC.new _ 30 rfl
  have hs := h1.below hB0
  have c6 := hA.c 6 _ rfl
  go_enter Tryz.func44, Tryz.ntmps44
  go_upto_region 1 with (fail)
  rw [← hw0]
  clear hw0
  by_cases hc : c < F.names.length
  · obtain ⟨b, off, rfl, hb, d0⟩ := hs.str c hc hc
    have hn : nameF F c = F.names[c] := by simp [nameF, List.getElem?_eq_getElem hc]
    go_wp2
    go_ret
    exact ⟨by rw [hn]; rfl, hB0⟩
  · have hn : nameF F c = ByteArray.empty := by simp [nameF, List.getElem?_eq_none (Nat.le_of_not_lt hc)]
    go_wp2
    go_ret
    exact ⟨by rw [hn]; rfl, hB0⟩
theorem any_no {l : List Le} {n : ByteArray} {j : Nat} (hj : j < l.length) {k : Nat} (hjk : j < k) (h : l[j].name = n) : ((l.take k).any fun y => decide (y.name = n)) = true := by
  rw [List.any_eq_true]
  refine ⟨l[j], ?_, decide_eq_true h⟩
  rw [List.mem_take_iff_getElem]
  exact ⟨j, by omega, rfl⟩
theorem any_yes {l : List Le} {n : ByteArray} {j : Nat} (hj : j < l.length) (h0 : ((l.take j).any fun y => decide (y.name = n)) = false) (h : ¬ l[j].name = n) : ((l.take (j + 1)).any fun y => decide (y.name = n)) = false := by
  rw [List.take_succ_eq_append_getElem hj, List.any_append, h0]; simp [h]
theorem letT : RecT Tryz.prog 48 2 := ⟨_, Tryz.underlying48, rfl, by kernel_rfl⟩
theorem lec_one (x : Le) : ∀ v ∈ lec x, v.oneCell' = true := by
  intro v hv; simp only [lec, List.mem_cons, List.not_mem_nil, or_false] at hv; rcases hv with rfl | rfl <;> rfl
theorem put_le {W : World} (x : Le) : ∃ W1, W1 = (W.alloc (.cells #[.string { data := #[] }, .string { data := #[] }] 48)).setCells W.heap.size 0 (lec x) ∧
    BC (W.alloc (.cells #[.string { data := #[] }, .string { data := #[] }] 48)) W.heap.size (lec ⟨ByteArray.empty, ByteArray.empty⟩) ∧ BC W1 W.heap.size (lec x) ∧ Below W.heap.size W W1 := by
  have b0 : BC (W.alloc (.cells #[.string { data := #[] }, .string { data := #[] }] 48)) W.heap.size (lec ⟨ByteArray.empty, ByteArray.empty⟩) := BC.new (lec ⟨ByteArray.empty, ByteArray.empty⟩) 48 rfl
  exact ⟨_, rfl, b0, b0.putAll (lec x) rfl, below_setCells (Nat.le_refl _) _ _ _ (bal (Below.refl _ _) _)⟩
set_option maxRecDepth 100000 in
set_option maxHeartbeats 4000000 in
theorem rFontMay_any (F : Fo) (C : List Value) (w : World) (h : FoAt w F C) : Calls Tryz.prog 22 #[.agg C.toArray] w fun e w' => e = .returned (.bool (openB F)) ∧ Below w.heap.size w w' := by
  obtain ⟨ok, A, B, E, ca, cb, ce, rfl, h1, h2, h3⟩ := h
  obtain ⟨w0, hw0⟩ : ∃ w0 : World, w0 = w.alloc (.cells (foC F.m (.slice A F.names.length ca) (.slice B F.lets.length cb) (.slice E F.kern.length ce)).toArray 30) := ⟨_, rfl⟩
  have hB0 : Below w.heap.size w w0 := by rw [hw0]; exact bal (Below.refl _ _) _
  have hA : BC w0 w.heap.size (foC F.m (.slice A F.names.length ca) (.slice B F.lets.length cb) (.slice E F.kern.length ce)) := by rw [hw0]; exact BC.new _ 30 rfl
  have hok := Lib.hid ok
  obtain ⟨R, hR⟩ : ∃ R, openB F = R := ⟨_, rfl⟩
  have hO := openB_eq F
  rw [hR] at hO ⊢
  have HO := Lib.hid hO
  clear hR hO
  have hnl := ok.nl
  have hll := ok.ll
  have hkl := ok.kl
  clear ok
  have hs2 := h2.below hB0
  have hs3 := h3.below hB0
  have HM := Lib.hid fun W => rMay_any F.m W
  unfold mtv at HM
  obtain ⟨n1, hn1⟩ : ∃ n, F.names.length = n := ⟨_, rfl⟩
  obtain ⟨n2, hn2⟩ : ∃ n, F.lets.length = n := ⟨_, rfl⟩
  obtain ⟨n3, hn3⟩ : ∃ n, F.kern.length = n := ⟨_, rfl⟩
  have HN3 := Lib.hid hn3
  have HN2 := Lib.hid hn2
  rw [hn1, hn2, hn3] at HO
  rw [hn1] at hnl
  rw [hn2] at hll hs2
  rw [hn3] at hkl hs3
  rw [hn1, hn2, hn3] at hw0 hA ⊢
  clear hn1 hn2 hn3 h1 h2 h3
  have a0 := hA.c 0 _ rfl
  have a1 := hA.c 1 _ rfl
  have a2 := hA.c 2 _ rfl
  have a3 := hA.c 3 _ rfl
  have a4 := hA.c 4 _ rfl
  have a5 := hA.c 5 _ rfl
  go_enter Tryz.func22, Tryz.ntmps22
  go_upto_region 1 with (fail)
  rw [← hw0]
  clear hw0
  go_wp2_with fail
  refine (HM.out _).mono ?_; rintro e w1 ⟨rfl, hb1⟩
  have B1 := btr hB0 hb1
  replace hA := hA.below hb1
  replace hs2 := hs2.below hb1
  replace hs3 := hs3.below hb1
  clear a0 a1 a2 a3 a4 a5 hb1 hB0 HM
  have a6 := hA.c 6 _ rfl
  have a7 := hA.c 7 _ rfl
  have a8 := hA.c 8 _ rfl
  cases hm : mtB F.m
  · have HE := Lib.hid (show R = false by rw [HO.out, hm]; rfl)
    clear hm HO
    go_wp2
    go_ret
    exact ⟨by rw [HE.out]; rfl, B1⟩
  by_cases g1 : 256 < n1
  · have HE := Lib.hid (show R = false by rw [HO.out, hm, decide_eq_false (show ¬ n1 ≤ 256 by omega)]; rfl)
    have g1' : decide (256 < (n1 : Int)) = true := by simp; omega
    clear hm HO g1
    go_wp2
    go_ret
    exact ⟨by rw [HE.out]; rfl, B1⟩
  have g1' : decide (256 < (n1 : Int)) = false := by simp; omega
  by_cases g2 : 256 < n2
  · have HE := Lib.hid (show R = false by rw [HO.out, hm, decide_eq_false (show ¬ n2 ≤ 256 by omega)]; simp)
    have g2' : decide (256 < (n2 : Int)) = true := by simp; omega
    clear hm HO g1 g2
    go_wp2
    go_ret
    exact ⟨by rw [HE.out]; rfl, B1⟩
  have g2' : decide (256 < (n2 : Int)) = false := by simp; omega
  by_cases g3 : 256 < n3
  · have HE := Lib.hid (show R = false by rw [HO.out, hm, decide_eq_false (show ¬ n3 ≤ 256 by omega)]; simp)
    have g3' : decide (256 < (n3 : Int)) = true := by simp; omega
    clear hm HO g1 g2 g3
    go_wp2
    go_ret
    exact ⟨by rw [HE.out]; rfl, B1⟩
  have g3' : decide (256 < (n3 : Int)) = false := by simp; omega
  have HQ := Lib.hid (show R = (F.kern.all kernOK && bookB F.lets) by rw [HO.out, hm, decide_eq_true (show n1 ≤ 256 by omega), decide_eq_true (show n2 ≤ 256 by omega), decide_eq_true (show n3 ≤ 256 by omega)]; simp)
  clear hm HO g1 g2 g3
  have HSZ := Lib.hid hok.out.ls
  clear hok
  go_wp2_with fail
  go_loopw [3] (fun i wr => ∃ k, k ≤ n2 ∧ i = .int .i64 (k : Int) ∧ Below w1.heap.size w1 wr ∧ Hid (bookTo F.lets k = true)) (fun i _ => n2 - (intOf i).toNat)
  case atStart => exact ⟨0, by omega, rfl, Below.refl _ _, Lib.hid rfl⟩
  case round =>
    obtain ⟨wo, rfl⟩ : ∃ wo : World, wo = wr := ⟨_, rfl⟩
    obtain ⟨k, hk, rfl, hbr, hal⟩ := hrel
    have a7o := (hA.below hbr).c 7 _ rfl
    by_cases hlt : k < n2
    · have hkk : k < F.lets.length := by rw [HN2.out]; exact hlt
      obtain ⟨b, off, rfl, hb, d0, d1⟩ := (hs2.below hbr).le k hlt hkk
      have hz := HSZ.out F.lets[k] (List.getElem_mem hkk)
      have hno := bookTo_no (l := F.lets) (k := k) hkk
      have hyes := bookTo_yes (l := F.lets) (k := k) hkk hal.out
      obtain ⟨x, hx⟩ : ∃ x, x = F.lets[k] := ⟨_, rfl⟩
      rw [← hx] at d0 d1 hno hyes hz
      have HNO := Lib.hid hno
      have HYES := Lib.hid hyes
      have hlen : IntKind.i64.wrap (x.name.size : Int) = x.name.size := IntWalk.i64_in _ (by have := hz.1; unfold SzOK at this; omega)
      have hlen2 : IntKind.i64.wrap (x.prog.size : Int) = x.prog.size := IntWalk.i64_in _ (by have := hz.2; unfold SzOK at this; omega)
      clear hx hno hyes hz
      obtain ⟨w7, hw7, Z7, N7, b7⟩ := put_le (W := wo) x
      have HW7 := Lib.hid hw7
      have s7 := hs2.below (btr hbr b7)
      have B7 := btr B1 (btr hbr b7)
      have u0 := N7.c 0 _ rfl
      have u1 := N7.c 1 _ rfl
      have hA7 := hA.below (btr hbr b7)
      clear hw7
      by_cases c1 : x.name = ByteArray.empty
      · have HE := Lib.hid (show R = false by rw [HQ.out, HNO.out (by simp [leB, c1]), Bool.and_false])
        have c1' : x.name.toList.isEmpty = true := by rw [str_em]; exact decide_eq_true c1
        clear HNO HYES HQ c1
        go_wp2_with (first
          | (refine wpList_store_rec rfl _ _ _ rfl wo.heap.size (lec x) _ rfl rfl 2 letT Z7 rfl rfl (lec_one x) ?_; rw [← HW7.out])
          | fail)
        go_ret
        exact ⟨by rw [HE.out]; rfl, B7⟩
      have c1' : x.name.toList.isEmpty = false := by rw [str_em]; exact decide_eq_false c1
      by_cases c2 : 100 < x.name.size
      · have HE := Lib.hid (show R = false by rw [HQ.out, HNO.out (by simp [leB, show ¬ x.name.size ≤ 100 by omega]), Bool.and_false])
        have c2' : decide (100 < (x.name.size : Int)) = true := by simp; omega
        clear HNO HYES HQ c1 c2
        go_wp2_with (first
          | (refine wpList_store_rec rfl _ _ _ rfl wo.heap.size (lec x) _ rfl rfl 2 letT Z7 rfl rfl (lec_one x) ?_; rw [← HW7.out])
          | fail)
        go_ret
        exact ⟨by rw [HE.out]; rfl, B7⟩
      have c2' : decide (100 < (x.name.size : Int)) = false := by simp; omega
      by_cases c3 : 600 < x.prog.size
      · have HE := Lib.hid (show R = false by rw [HQ.out, HNO.out (by simp [leB, show ¬ x.prog.size ≤ 600 by omega]), Bool.and_false])
        have c3' : decide (600 < (x.prog.size : Int)) = true := by simp; omega
        clear HNO HYES HQ c1 c2 c3
        go_wp2_with (first
          | (refine wpList_store_rec rfl _ _ _ rfl wo.heap.size (lec x) _ rfl rfl 2 letT Z7 rfl rfl (lec_one x) ?_; rw [← HW7.out])
          | fail)
        go_ret
        exact ⟨by rw [HE.out]; rfl, B7⟩
      have c3' : decide (600 < (x.prog.size : Int)) = false := by simp; omega
      have HLE := Lib.hid (show leB (F.lets.take k) x = !((F.lets.take k).any fun y => decide (y.name = x.name)) by
        unfold leB; rw [decide_eq_false c1, decide_eq_true (show x.name.size ≤ 100 by omega), decide_eq_true (show x.prog.size ≤ 600 by omega)]; simp)
      clear c1 c2 c3
      go_wp2_with (first
        | (refine wpList_store_rec rfl _ _ _ rfl wo.heap.size (lec x) _ rfl rfl 2 letT Z7 rfl rfl (lec_one x) ?_; rw [← HW7.out])
        | fail)
      clear u0 u1
      go_loopw [5] (fun i wr => ∃ j, j ≤ k ∧ i = .int .i64 (j : Int) ∧ Below w7.heap.size w7 wr ∧ Hid (((F.lets.take j).any fun y => decide (y.name = x.name)) = false)) (fun i _ => k - (intOf i).toNat)
      case atStart => exact ⟨0, by omega, rfl, Below.refl _ _, Lib.hid rfl⟩
      case round =>
        obtain ⟨wi, rfl⟩ : ∃ wi : World, wi = wr := ⟨_, rfl⟩
        obtain ⟨j, hj, rfl, hbi, hni⟩ := hrel
        have a7i := (hA7.below hbi).c 7 _ rfl
        by_cases hjt : j < k
        · have hjj : j < F.lets.length := by rw [HN2.out]; omega
          obtain ⟨bb, off2, hbb, hb2, t0, t1⟩ := (s7.below hbi).le j (by omega) hjj
          simp only [Option.some.injEq, Addr.mk.injEq, and_true] at hbb
          obtain ⟨rfl, rfl⟩ := hbb
          have u0 := (N7.below hbi).c 0 _ rfl
          have hyes2 := any_yes (n := x.name) hjj hni.out
          have hno2 := any_no (n := x.name) hjj hjt
          obtain ⟨z, hz⟩ : ∃ z, z = F.lets[j] := ⟨_, rfl⟩
          rw [← hz] at t0 t1 hyes2 hno2
          have HY2 := Lib.hid hyes2
          have HN2' := Lib.hid hno2
          clear hz hyes2 hno2
          by_cases hq : z.name = x.name
          · have HE := Lib.hid (show R = false by rw [HQ.out, HNO.out (by rw [HLE.out, HN2'.out hq]; rfl), Bool.and_false])
            have hq' : (z.name.toList == x.name.toList) = true := by rw [str_eq]; exact decide_eq_true hq
            clear hq
            go_wp2_with fail
            go_quiet (fail)
            go_wp2_with fail
            go_ret
            exact ⟨by rw [HE.out]; rfl, btr B7 (bdrewN hbi _)⟩
          · have HA2 := Lib.hid (HY2.out hq)
            have hq' : (z.name.toList == x.name.toList) = false := by rw [str_eq]; exact decide_eq_false hq
            clear hq
            go_wp2_with fail
            go_quiet (fail)
            go_wp2_with fail
            go_roundw
            case rel => exact ⟨j + 1, by omega, by go_num, bdrewN hbi _, HA2⟩
            case measure => (simp [intOf]) <;> omega
        · obtain rfl : j = k := by omega
          have HNX := Lib.hid (HYES.out (by rw [HLE.out, hni.out]; rfl))
          go_wp2_with fail
          go_roundw
          case rel => exact ⟨j + 1, by omega, by go_num, btr hbr (btr b7 hbi), HNX⟩
          case measure => (simp [intOf]) <;> omega
    · obtain rfl : k = n2 := by omega
      have HBB := Lib.hid (show bookB F.lets = true by unfold bookB; rw [HN2.out]; exact hal.out)
      have HQ2 := Lib.hid (show R = F.kern.all kernOK by rw [HQ.out, HBB.out, Bool.and_true])
      have B2 := btr B1 hbr
      have s3 := hs3.below hbr
      have hA' := hA.below hbr
      have a8' := hA'.c 8 _ rfl
      clear HQ HBB hal
      go_wp2_with fail
      go_loopw [6] (fun i wr => ∃ j, j ≤ n3 ∧ i = .int .i64 (j : Int) ∧ Below wo.heap.size wo wr ∧ Hid ((F.kern.take j).all kernOK = true)) (fun i _ => n3 - (intOf i).toNat)
      case atStart => exact ⟨0, by omega, rfl, Below.refl _ _, Lib.hid rfl⟩
      case round =>
        obtain ⟨wi, rfl⟩ : ∃ wi : World, wi = wr := ⟨_, rfl⟩
        obtain ⟨j, hj, rfl, hbi, hni⟩ := hrel
        have a8i := (hA'.below hbi).c 8 _ rfl
        by_cases hjt : j < n3
        · have hjj : j < F.kern.length := by rw [HN3.out]; exact hjt
          obtain ⟨bb, off2, rfl, hb2, d0, d1, d2⟩ := (s3.below hbi).pr j hjt hjj
          obtain ⟨z, hz⟩ : ∃ z, z = F.kern[j] := ⟨_, rfl⟩
          have hno := all_no (f := kernOK) hjj
          have hyes := all_yes (f := kernOK) hjj hni.out
          rw [← hz] at d0 d1 d2 hno hyes
          have HNO := Lib.hid hno
          have HYES := Lib.hid hyes
          have HCO := Lib.hid fun W => (show Calls Tryz.prog 50 #[.int .i64 z.mv] W fun e w' => e = .returned (.bool (kernOK z)) ∧ W = w' from rIsCoord_any z.mv W)
          clear hz hno hyes
          go_wp2_with fail
          refine (HCO.out _).mono ?_; rintro e w' ⟨rfl, rfl⟩
          cases hk1 : kernOK z
          · have HE := Lib.hid (show R = false by rw [HQ2.out, HNO.out hk1])
            go_wp2_with fail
            go_ret
            exact ⟨by rw [HE.out]; rfl, btr B2 hbi⟩
          · have HA2 := Lib.hid (HYES.out hk1)
            go_wp2_with fail
            go_roundw
            case rel => exact ⟨j + 1, by omega, by go_num, hbi, HA2⟩
            case measure => (simp [intOf]) <;> omega
        · obtain rfl : j = n3 := by omega
          have hall := hni.out
          rw [List.take_of_length_le (by rw [HN3.out]; omega)] at hall
          have HE := Lib.hid (show R = true by rw [HQ2.out, hall])
          clear hall hni
          go_wp2_with fail
          go_ret
          exact ⟨by rw [HE.out]; rfl, btr B2 hbi⟩
end Go.Proofs.YtaphmonpdnbiiaaGreat
