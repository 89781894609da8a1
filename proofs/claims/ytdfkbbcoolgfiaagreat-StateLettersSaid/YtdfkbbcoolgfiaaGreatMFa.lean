/- The reference's matrices: Aim, Move. -/
import Derived.Test.YtdfkbbcoolgfiaaGreatMSt
import Derived.Test.YtdfkbbcoolgfiaaGreatMatA
import Derived.Test.YtdfkbbcoolgfiaaGreatMF1
import Derived.Test.YtdfkbbcoolgfiaaGreatMF2
namespace Go.Proofs.YtdfkbbcoolgfiaaGreat
open Go.RowKit Go.BigFrame

set_option maxRecDepth 100000 in
set_option maxHeartbeats 2000000 in
theorem rAim_any (m : Mt) (x y : Int) (w : World) : Calls Tryz.prog 107 #[mtv m, .int .i64 x, .int .i64 y] w fun e w' => e = .returned (vP (aimM m x y)) ∧ Below w.heap.size w w' := by
  obtain ⟨w0, hw0⟩ : ∃ w0 : World, w0 = w.alloc (.cells #[.int .i64 m.a, .int .i64 m.b, .int .i64 m.c, .int .i64 m.d, .int .i64 m.e, .int .i64 m.f] 23) := ⟨_, rfl⟩
  have hB0 : Below w.heap.size w w0 := by rw [hw0]; exact bal (Below.refl _ _) _
  have hA : BC w0 w.heap.size (mtC m) := by rw [hw0]; exact BC.new (mtC m) 23 rfl
  have HG := Lib.hid fun W => rFair_any m x y W
  unfold mtv at HG ⊢
  obtain ⟨q, hq⟩ : ∃ q, (mtB m && fixB x && fixB y) = q := ⟨_, rfl⟩
  obtain ⟨R, hR⟩ : ∃ R, aimM m x y = R := ⟨_, rfl⟩
  have HR := Lib.hid hR
  have HQ := Lib.hid hq
  rw [hq] at HG
  rw [hR]
  clear hq hR
  have a0 := hA.c 0 _ rfl
  have a1 := hA.c 1 _ rfl
  have a2 := hA.c 2 _ rfl
  have a3 := hA.c 3 _ rfl
  have a4 := hA.c 4 _ rfl
  have a5 := hA.c 5 _ rfl
  go_enter Tryz.func107, Tryz.ntmps107
  go_wp2_with fail
  rw [← hw0]
  clear hw0 a0 a1 a2 a3 a4 a5
  refine (HG.out _).mono ?_; rintro e w1 ⟨rfl, hb1⟩
  have B1 := btr hB0 hb1
  replace hA := hA.below hb1
  clear hb1
  cases q
  · have HR2 := Lib.hid (show R = (0, 0, 1) by rw [← HR.out]; unfold aimM; rw [HQ.out]; rfl)
    go_wp2_with fail
    go_ret3
    refine ⟨?_, B1⟩
    rw [HR2.out]
    rfl
  · have HR2 := Lib.hid (show R = nearP _ _ 1073741823 by rw [← HR.out]; unfold aimM; rw [HQ.out]; rfl)
    obtain ⟨⟨hm, hx⟩, hy⟩ : (mtB m = true ∧ fixB x = true) ∧ fixB y = true := by simpa using HQ.out
    have hf := mtB_fix hm
    have p1 := mul_fix hf.1 hx
    have p2 := mul_fix hf.2.2.1 hy
    have p3 := mul_fix hf.2.1 hx
    have p4 := mul_fix hf.2.2.2.1 hy
    have e1 : IntKind.i64.wrap (m.a * x) = m.a * x := IntWalk.i64_in _ (by omega)
    have e2 : IntKind.i64.wrap (m.c * y) = m.c * y := IntWalk.i64_in _ (by omega)
    have e3 : IntKind.i64.wrap (m.b * x) = m.b * x := IntWalk.i64_in _ (by omega)
    have e4 : IntKind.i64.wrap (m.d * y) = m.d * y := IntWalk.i64_in _ (by omega)
    have e5 : IntKind.i64.wrap (m.a * x + m.c * y) = m.a * x + m.c * y := IntWalk.i64_in _ (by omega)
    have e6 : IntKind.i64.wrap (m.b * x + m.d * y) = m.b * x + m.d * y := IntWalk.i64_in _ (by omega)
    have H1 := Lib.hid fun W => rEven16_any (m.a * x + m.c * y) W (by omega)
    have H2 := Lib.hid fun W => rEven16_any (m.b * x + m.d * y) W (by omega)
    have H3 := Lib.hid fun W => rTwo_big (rndM 65536 32768 (m.a * x + m.c * y)) (rndM 65536 32768 (m.b * x + m.d * y)) W
    unfold vP at H3
    have a0 := hA.c 0 _ rfl
    have a1 := hA.c 1 _ rfl
    have a2 := hA.c 2 _ rfl
    have a3 := hA.c 3 _ rfl
    have a4 := hA.c 4 _ rfl
    have a5 := hA.c 5 _ rfl
    clear p1 p2 p3 p4 hm hx hy hf HQ
    go_wp2_with fail
    go_quiet (first
      | (go_at_call 89; with_reducible exact quiet_left (H1.out _))
      | (go_at_call 89; with_reducible exact quiet_left (H2.out _))
      | (go_at_call 142; with_reducible exact quiet_left (H3.out _))
      | fail)
    go_wp2_with fail
    go_ret3
    refine ⟨?_, btr B1 (bdrewN (Below.refl _ _) _)⟩
    rw [HR2.out]
    rfl
set_option maxRecDepth 100000 in
set_option maxHeartbeats 1000000 in
theorem rMove_any (x y : Int) (w : World) : Calls Tryz.prog 146 #[.int .i64 x, .int .i64 y] w fun e w' => e = .returned (mtv (moveM x y)) ∧ Below w.heap.size w w' := by
  obtain ⟨w0, hw0⟩ : ∃ w0 : World, w0 = w.alloc (.cells (mtC zeroM).toArray 23) := ⟨_, rfl⟩
  have hB0 : Below w.heap.size w w0 := by rw [hw0]; exact bal (Below.refl _ _) _
  have hZ : BC w0 w.heap.size (mtC zeroM) := by rw [hw0]; exact BC.new (mtC zeroM) 23 rfl
  have hz6 : (mtC zeroM).toArray = #[.int .i64 0, .int .i64 0, .int .i64 0, .int .i64 0, .int .i64 0, .int .i64 0] := rfl
  rw [hz6] at hw0
  have hF := hZ.putAll (mtC (moveM x y)) rfl
  have hFB := below_setCells (show w.heap.size ≤ w.heap.size by omega) (mtC (moveM x y)) 0 _ hB0
  clear hz6
  go_enter Tryz.func146, Tryz.ntmps146
  go_upto_region 1 with (fail)
  rw [← hw0]
  clear hw0
  go_wp2_with (first
    | (refine wpList_store_rec rfl _ _ _ rfl w.heap.size (mtC (moveM x y)) _ rfl rfl 6 matT2 hZ rfl rfl (mtC_oneR _) ?_)
    | fail)
  refine bodyPost_ret (result_rec1 rfl rfl matT2 hF rfl) rfl ?_
  exact ⟨rfl, hFB⟩
end Go.Proofs.YtdfkbbcoolgfiaaGreat

namespace Go.Proofs.YtdfkbbcoolgfiaaGreat

def le0 : Le := ⟨ByteArray.empty, ByteArray.empty⟩
def letterF (F : Fo) (c : Nat) : Option Le := if openB F then letF F (nameF F c) else none
/-- What Letter answers. -/
def letV (y : Option Le) : Value := .tuple #[.agg #[.string (y.getD le0).name, .string (y.getD le0).prog], .bool y.isSome]
theorem letV_eq (y : Option Le) : letV y = .tuple #[.agg (lec (y.getD le0)).toArray, .bool y.isSome] := rfl
theorem bookTo_names {l : List Le} : ∀ {k : Nat}, k ≤ l.length → bookTo l k = true → ∀ x ∈ l.take k, x.name ≠ ByteArray.empty
  | 0, _, _, x, hx => by simp at hx
  | k + 1, hk, hb, x, hx => by
    have hkl : k < l.length := by omega
    simp only [bookTo, List.getElem?_eq_getElem hkl, Bool.and_eq_true] at hb
    rw [List.take_succ_eq_append_getElem hkl, List.mem_append, List.mem_singleton] at hx
    rcases hx with hx | rfl
    · exact bookTo_names (by omega) hb.1 x hx
    · have := hb.2
      simp only [leB, Bool.and_eq_true, Bool.not_eq_true', decide_eq_false_iff_not] at this
      exact this.1.1.2
theorem let_empty {F : Fo} (h : openB F = true) : letF F ByteArray.empty = none := by
  have hb : bookB F.lets = true := by rw [openB_eq] at h; simp only [Bool.and_eq_true] at h; exact h.2
  unfold letF
  rw [List.find?_eq_none]
  intro x hx
  have := bookTo_names (Nat.le_refl _) hb x (by rw [List.take_length]; exact hx)
  simpa using this
theorem letterF_no {F : Fo} {c : Nat} (h : openB F = true) (hn : nameF F c = ByteArray.empty) : letterF F c = none := by
  unfold letterF; rw [h, hn, let_empty h]; rfl
theorem letterF_yes {F : Fo} {c : Nat} (h : openB F = true) : letterF F c = F.lets.find? fun x => decide (x.name = nameF F c) := by
  unfold letterF; rw [h]; rfl
theorem letterF_shut {F : Fo} {c : Nat} (h : openB F = false) : letterF F c = none := by
  unfold letterF; rw [h]; rfl
theorem runF_letter {F : Fo} {c : Nat} (h : openB F = true) : runF F c = match letterF F c with | none => (([], 0), 16) | some x => if (RunG (bl x.prog)).2 = 0 then RunG (bl x.prog) else (([], 0), 16) := by
  unfold letterF; rw [h]; rfl
end Go.Proofs.YtdfkbbcoolgfiaaGreat

namespace Go.Proofs.YtdfkbbcoolgfiaaGreat
open Go.RowKit Go.BigFrame

set_option maxRecDepth 100000 in
set_option maxHeartbeats 1000000 in
theorem rname_any (F : Fo) (C : List Value) (c : Nat) (w : World) (hc8 : c < 256) (h : FoAt w F C) : Calls Tryz.prog 149 #[.agg C.toArray, .int .u8 c] w fun e w' => e = .returned (.string (nameF F c)) ∧ Below w.heap.size w w' := by
  obtain ⟨ok, A, B, E, ca, cb, ce, rfl, h1, h2, h3⟩ := h
  have hl := ok.nl
  obtain ⟨w0, hw0⟩ : ∃ w0 : World, w0 = w.alloc (.cells (foC F.m (.slice A F.names.length ca) (.slice B F.lets.length cb) (.slice E F.kern.length ce)).toArray 56) := ⟨_, rfl⟩
  have hB0 : Below w.heap.size w w0 := by rw [hw0]; exact bal (Below.refl _ _) _
  have hA : BC w0 w.heap.size (foC F.m (.slice A F.names.length ca) (.slice B F.lets.length cb) (.slice E F.kern.length ce)) := by rw [hw0]; exact BC.new _ 56 rfl
  have hs := h1.below hB0
  have c6 := hA.c 6 _ rfl
  go_enter Tryz.func149, Tryz.ntmps149
  go_upto_region 1 with (fail)
  rw [← hw0]
  clear hw0
  by_cases hc : c < F.names.length
  · obtain ⟨b, off, rfl, hb, d0⟩ := hs.str c hc hc
    have hn : nameF F c = F.names[c] := by simp [nameF, List.getElem?_eq_getElem hc]
    go_wp2
    go_ret
    exact ⟨by rw [hn]; rfl, hB0⟩
  · have hn : nameF F c = ByteArray.empty := by simp [nameF, List.getElem?_eq_none (Nat.le_of_not_lt hc)]
    go_wp2
    go_ret
    exact ⟨by rw [hn]; rfl, hB0⟩
theorem any_no {l : List Le} {n : ByteArray} {j : Nat} (hj : j < l.length) {k : Nat} (hjk : j < k) (h : l[j].name = n) : ((l.take k).any fun y => decide (y.name = n)) = true := by
  rw [List.any_eq_true]
  refine ⟨l[j], ?_, decide_eq_true h⟩
  rw [List.mem_take_iff_getElem]
  exact ⟨j, by omega, rfl⟩
theorem any_yes {l : List Le} {n : ByteArray} {j : Nat} (hj : j < l.length) (h0 : ((l.take j).any fun y => decide (y.name = n)) = false) (h : ¬ l[j].name = n) : ((l.take (j + 1)).any fun y => decide (y.name = n)) = false := by
  rw [List.take_succ_eq_append_getElem hj, List.any_append, h0]; simp [h]
theorem letT : RecT Tryz.prog 145 2 := ⟨_, Tryz.underlying145, rfl, by kernel_rfl⟩
theorem lec_one (x : Le) : ∀ v ∈ lec x, v.oneCell' = true := by
  intro v hv; simp only [lec, List.mem_cons, List.not_mem_nil, or_false] at hv; rcases hv with rfl | rfl <;> rfl
theorem put_le {W : World} (x : Le) : ∃ W1, W1 = (W.alloc (.cells #[.string { data := #[] }, .string { data := #[] }] 145)).setCells W.heap.size 0 (lec x) ∧
    BC (W.alloc (.cells #[.string { data := #[] }, .string { data := #[] }] 145)) W.heap.size (lec ⟨ByteArray.empty, ByteArray.empty⟩) ∧ BC W1 W.heap.size (lec x) ∧ Below W.heap.size W W1 := by
  have b0 : BC (W.alloc (.cells #[.string { data := #[] }, .string { data := #[] }] 145)) W.heap.size (lec ⟨ByteArray.empty, ByteArray.empty⟩) := BC.new (lec ⟨ByteArray.empty, ByteArray.empty⟩) 145 rfl
  exact ⟨_, rfl, b0, b0.putAll (lec x) rfl, below_setCells (Nat.le_refl _) _ _ _ (bal (Below.refl _ _) _)⟩
set_option maxRecDepth 100000 in
set_option maxHeartbeats 4000000 in
theorem rFontMay_any (F : Fo) (C : List Value) (w : World) (h : FoAt w F C) : Calls Tryz.prog 50 #[.agg C.toArray] w fun e w' => e = .returned (.bool (openB F)) ∧ Below w.heap.size w w' := by
  obtain ⟨ok, A, B, E, ca, cb, ce, rfl, h1, h2, h3⟩ := h
  obtain ⟨w0, hw0⟩ : ∃ w0 : World, w0 = w.alloc (.cells (foC F.m (.slice A F.names.length ca) (.slice B F.lets.length cb) (.slice E F.kern.length ce)).toArray 56) := ⟨_, rfl⟩
  have hB0 : Below w.heap.size w w0 := by rw [hw0]; exact bal (Below.refl _ _) _
  have hA : BC w0 w.heap.size (foC F.m (.slice A F.names.length ca) (.slice B F.lets.length cb) (.slice E F.kern.length ce)) := by rw [hw0]; exact BC.new _ 56 rfl
  have hok := Lib.hid ok
  obtain ⟨R, hR⟩ : ∃ R, openB F = R := ⟨_, rfl⟩
  have hO := openB_eq F
  rw [hR] at hO ⊢
  have HO := Lib.hid hO
  clear hR hO
  have hnl := ok.nl
  have hll := ok.ll
  have hkl := ok.kl
  clear ok
  have hs2 := h2.below hB0
  have hs3 := h3.below hB0
  have HM := Lib.hid fun W => rMay_any F.m W
  unfold mtv at HM
  obtain ⟨n1, hn1⟩ : ∃ n, F.names.length = n := ⟨_, rfl⟩
  obtain ⟨n2, hn2⟩ : ∃ n, F.lets.length = n := ⟨_, rfl⟩
  obtain ⟨n3, hn3⟩ : ∃ n, F.kern.length = n := ⟨_, rfl⟩
  have HN3 := Lib.hid hn3
  have HN2 := Lib.hid hn2
  rw [hn1, hn2, hn3] at HO
  rw [hn1] at hnl
  rw [hn2] at hll hs2
  rw [hn3] at hkl hs3
  rw [hn1, hn2, hn3] at hw0 hA ⊢
  clear hn1 hn2 hn3 h1 h2 h3
  have a0 := hA.c 0 _ rfl
  have a1 := hA.c 1 _ rfl
  have a2 := hA.c 2 _ rfl
  have a3 := hA.c 3 _ rfl
  have a4 := hA.c 4 _ rfl
  have a5 := hA.c 5 _ rfl
  go_enter Tryz.func50, Tryz.ntmps50
  go_upto_region 1 with (fail)
  rw [← hw0]
  clear hw0
  go_wp2_with fail
  refine (HM.out _).mono ?_; rintro e w1 ⟨rfl, hb1⟩
  have B1 := btr hB0 hb1
  replace hA := hA.below hb1
  replace hs2 := hs2.below hb1
  replace hs3 := hs3.below hb1
  clear a0 a1 a2 a3 a4 a5 hb1 hB0 HM
  have a6 := hA.c 6 _ rfl
  have a7 := hA.c 7 _ rfl
  have a8 := hA.c 8 _ rfl
  cases hm : mtB F.m
  · have HE := Lib.hid (show R = false by rw [HO.out, hm]; rfl)
    clear hm HO
    go_wp2
    go_ret
    exact ⟨by rw [HE.out]; rfl, B1⟩
  by_cases g1 : 256 < n1
  · have HE := Lib.hid (show R = false by rw [HO.out, hm, decide_eq_false (show ¬ n1 ≤ 256 by omega)]; rfl)
    have g1' : decide (256 < (n1 : Int)) = true := by simp; omega
    clear hm HO g1
    go_wp2
    go_ret
    exact ⟨by rw [HE.out]; rfl, B1⟩
  have g1' : decide (256 < (n1 : Int)) = false := by simp; omega
  by_cases g2 : 256 < n2
  · have HE := Lib.hid (show R = false by rw [HO.out, hm, decide_eq_false (show ¬ n2 ≤ 256 by omega)]; simp)
    have g2' : decide (256 < (n2 : Int)) = true := by simp; omega
    clear hm HO g1 g2
    go_wp2
    go_ret
    exact ⟨by rw [HE.out]; rfl, B1⟩
  have g2' : decide (256 < (n2 : Int)) = false := by simp; omega
  by_cases g3 : 256 < n3
  · have HE := Lib.hid (show R = false by rw [HO.out, hm, decide_eq_false (show ¬ n3 ≤ 256 by omega)]; simp)
    have g3' : decide (256 < (n3 : Int)) = true := by simp; omega
    clear hm HO g1 g2 g3
    go_wp2
    go_ret
    exact ⟨by rw [HE.out]; rfl, B1⟩
  have g3' : decide (256 < (n3 : Int)) = false := by simp; omega
  have HQ := Lib.hid (show R = (F.kern.all kernOK && bookB F.lets) by rw [HO.out, hm, decide_eq_true (show n1 ≤ 256 by omega), decide_eq_true (show n2 ≤ 256 by omega), decide_eq_true (show n3 ≤ 256 by omega)]; simp)
  clear hm HO g1 g2 g3
  have HSZ := Lib.hid hok.out.ls
  clear hok
  go_wp2_with fail
  go_loopw [3] (fun i wr => ∃ k, k ≤ n2 ∧ i = .int .i64 (k : Int) ∧ Below w1.heap.size w1 wr ∧ Hid (bookTo F.lets k = true)) (fun i _ => n2 - (intOf i).toNat)
  case atStart => exact ⟨0, by omega, rfl, Below.refl _ _, Lib.hid rfl⟩
  case round =>
    obtain ⟨wo, rfl⟩ : ∃ wo : World, wo = wr := ⟨_, rfl⟩
    obtain ⟨k, hk, rfl, hbr, hal⟩ := hrel
    have a7o := (hA.below hbr).c 7 _ rfl
    by_cases hlt : k < n2
    · have hkk : k < F.lets.length := by rw [HN2.out]; exact hlt
      obtain ⟨b, off, rfl, hb, d0, d1⟩ := (hs2.below hbr).le k hlt hkk
      have hz := HSZ.out F.lets[k] (List.getElem_mem hkk)
      have hno := bookTo_no (l := F.lets) (k := k) hkk
      have hyes := bookTo_yes (l := F.lets) (k := k) hkk hal.out
      obtain ⟨x, hx⟩ : ∃ x, x = F.lets[k] := ⟨_, rfl⟩
      rw [← hx] at d0 d1 hno hyes hz
      have HNO := Lib.hid hno
      have HYES := Lib.hid hyes
      have hlen : IntKind.i64.wrap (x.name.size : Int) = x.name.size := IntWalk.i64_in _ (by have := hz.1; unfold SzOK at this; omega)
      have hlen2 : IntKind.i64.wrap (x.prog.size : Int) = x.prog.size := IntWalk.i64_in _ (by have := hz.2; unfold SzOK at this; omega)
      clear hx hno hyes hz
      obtain ⟨w7, hw7, Z7, N7, b7⟩ := put_le (W := wo) x
      have HW7 := Lib.hid hw7
      have s7 := hs2.below (btr hbr b7)
      have B7 := btr B1 (btr hbr b7)
      have u0 := N7.c 0 _ rfl
      have u1 := N7.c 1 _ rfl
      have hA7 := hA.below (btr hbr b7)
      clear hw7
      by_cases c1 : x.name = ByteArray.empty
      · have HE := Lib.hid (show R = false by rw [HQ.out, HNO.out (by simp [leB, c1]), Bool.and_false])
        have c1' : x.name.toList.isEmpty = true := by rw [str_em]; exact decide_eq_true c1
        clear HNO HYES HQ c1
        go_wp2_with (first
          | (refine wpList_store_rec rfl _ _ _ rfl wo.heap.size (lec x) _ rfl rfl 2 letT Z7 rfl rfl (lec_one x) ?_; rw [← HW7.out])
          | fail)
        go_ret
        exact ⟨by rw [HE.out]; rfl, B7⟩
      have c1' : x.name.toList.isEmpty = false := by rw [str_em]; exact decide_eq_false c1
      by_cases c2 : 100 < x.name.size
      · have HE := Lib.hid (show R = false by rw [HQ.out, HNO.out (by simp [leB, show ¬ x.name.size ≤ 100 by omega]), Bool.and_false])
        have c2' : decide (100 < (x.name.size : Int)) = true := by simp; omega
        clear HNO HYES HQ c1 c2
        go_wp2_with (first
          | (refine wpList_store_rec rfl _ _ _ rfl wo.heap.size (lec x) _ rfl rfl 2 letT Z7 rfl rfl (lec_one x) ?_; rw [← HW7.out])
          | fail)
        go_ret
        exact ⟨by rw [HE.out]; rfl, B7⟩
      have c2' : decide (100 < (x.name.size : Int)) = false := by simp; omega
      by_cases c3 : 600 < x.prog.size
      · have HE := Lib.hid (show R = false by rw [HQ.out, HNO.out (by simp [leB, show ¬ x.prog.size ≤ 600 by omega]), Bool.and_false])
        have c3' : decide (600 < (x.prog.size : Int)) = true := by simp; omega
        clear HNO HYES HQ c1 c2 c3
        go_wp2_with (first
          | (refine wpList_store_rec rfl _ _ _ rfl wo.heap.size (lec x) _ rfl rfl 2 letT Z7 rfl rfl (lec_one x) ?_; rw [← HW7.out])
          | fail)
        go_ret
        exact ⟨by rw [HE.out]; rfl, B7⟩
      have c3' : decide (600 < (x.prog.size : Int)) = false := by simp; omega
      have HLE := Lib.hid (show leB (F.lets.take k) x = !((F.lets.take k).any fun y => decide (y.name = x.name)) by
        unfold leB; rw [decide_eq_false c1, decide_eq_true (show x.name.size ≤ 100 by omega), decide_eq_true (show x.prog.size ≤ 600 by omega)]; simp)
      clear c1 c2 c3
      go_wp2_with (first
        | (refine wpList_store_rec rfl _ _ _ rfl wo.heap.size (lec x) _ rfl rfl 2 letT Z7 rfl rfl (lec_one x) ?_; rw [← HW7.out])
        | fail)
      clear u0 u1
      go_loopw [5] (fun i wr => ∃ j, j ≤ k ∧ i = .int .i64 (j : Int) ∧ Below w7.heap.size w7 wr ∧ Hid (((F.lets.take j).any fun y => decide (y.name = x.name)) = false)) (fun i _ => k - (intOf i).toNat)
      case atStart => exact ⟨0, by omega, rfl, Below.refl _ _, Lib.hid rfl⟩
      case round =>
        obtain ⟨wi, rfl⟩ : ∃ wi : World, wi = wr := ⟨_, rfl⟩
        obtain ⟨j, hj, rfl, hbi, hni⟩ := hrel
        have a7i := (hA7.below hbi).c 7 _ rfl
        by_cases hjt : j < k
        · have hjj : j < F.lets.length := by rw [HN2.out]; omega
          obtain ⟨bb, off2, hbb, hb2, t0, t1⟩ := (s7.below hbi).le j (by omega) hjj
          simp only [Option.some.injEq, Addr.mk.injEq, and_true] at hbb
          obtain ⟨rfl, rfl⟩ := hbb
          have u0 := (N7.below hbi).c 0 _ rfl
          have hyes2 := any_yes (n := x.name) hjj hni.out
          have hno2 := any_no (n := x.name) hjj hjt
          obtain ⟨z, hz⟩ : ∃ z, z = F.lets[j] := ⟨_, rfl⟩
          rw [← hz] at t0 t1 hyes2 hno2
          have HY2 := Lib.hid hyes2
          have HN2' := Lib.hid hno2
          clear hz hyes2 hno2
          by_cases hq : z.name = x.name
          · have HE := Lib.hid (show R = false by rw [HQ.out, HNO.out (by rw [HLE.out, HN2'.out hq]; rfl), Bool.and_false])
            have hq' : (z.name.toList == x.name.toList) = true := by rw [str_eq]; exact decide_eq_true hq
            clear hq
            go_wp2_with fail
            go_quiet (fail)
            go_wp2_with fail
            go_ret
            exact ⟨by rw [HE.out]; rfl, btr B7 (bdrewN hbi _)⟩
          · have HA2 := Lib.hid (HY2.out hq)
            have hq' : (z.name.toList == x.name.toList) = false := by rw [str_eq]; exact decide_eq_false hq
            clear hq
            go_wp2_with fail
            go_quiet (fail)
            go_wp2_with fail
            go_roundw
            case rel => exact ⟨j + 1, by omega, by go_num, bdrewN hbi _, HA2⟩
            case measure => (simp [intOf]) <;> omega
        · obtain rfl : j = k := by omega
          have HNX := Lib.hid (HYES.out (by rw [HLE.out, hni.out]; rfl))
          go_wp2_with fail
          go_roundw
          case rel => exact ⟨j + 1, by omega, by go_num, btr hbr (btr b7 hbi), HNX⟩
          case measure => (simp [intOf]) <;> omega
    · obtain rfl : k = n2 := by omega
      have HBB := Lib.hid (show bookB F.lets = true by unfold bookB; rw [HN2.out]; exact hal.out)
      have HQ2 := Lib.hid (show R = F.kern.all kernOK by rw [HQ.out, HBB.out, Bool.and_true])
      have B2 := btr B1 hbr
      have s3 := hs3.below hbr
      have hA' := hA.below hbr
      have a8' := hA'.c 8 _ rfl
      clear HQ HBB hal
      go_wp2_with fail
      go_loopw [6] (fun i wr => ∃ j, j ≤ n3 ∧ i = .int .i64 (j : Int) ∧ Below wo.heap.size wo wr ∧ Hid ((F.kern.take j).all kernOK = true)) (fun i _ => n3 - (intOf i).toNat)
      case atStart => exact ⟨0, by omega, rfl, Below.refl _ _, Lib.hid rfl⟩
      case round =>
        obtain ⟨wi, rfl⟩ : ∃ wi : World, wi = wr := ⟨_, rfl⟩
        obtain ⟨j, hj, rfl, hbi, hni⟩ := hrel
        have a8i := (hA'.below hbi).c 8 _ rfl
        by_cases hjt : j < n3
        · have hjj : j < F.kern.length := by rw [HN3.out]; exact hjt
          obtain ⟨bb, off2, rfl, hb2, d0, d1, d2⟩ := (s3.below hbi).pr j hjt hjj
          obtain ⟨z, hz⟩ : ∃ z, z = F.kern[j] := ⟨_, rfl⟩
          have hno := all_no (f := kernOK) hjj
          have hyes := all_yes (f := kernOK) hjj hni.out
          rw [← hz] at d0 d1 d2 hno hyes
          have HNO := Lib.hid hno
          have HYES := Lib.hid hyes
          have HCO := Lib.hid fun W => (show Calls Tryz.prog 99 #[.int .i64 z.mv] W fun e w' => e = .returned (.bool (kernOK z)) ∧ W = w' from rIsCoord_any z.mv W)
          clear hz hno hyes
          go_wp2_with fail
          refine (HCO.out _).mono ?_; rintro e w' ⟨rfl, rfl⟩
          cases hk1 : kernOK z
          · have HE := Lib.hid (show R = false by rw [HQ2.out, HNO.out hk1])
            go_wp2_with fail
            go_ret
            exact ⟨by rw [HE.out]; rfl, btr B2 hbi⟩
          · have HA2 := Lib.hid (HYES.out hk1)
            go_wp2_with fail
            go_roundw
            case rel => exact ⟨j + 1, by omega, by go_num, hbi, HA2⟩
            case measure => (simp [intOf]) <;> omega
        · obtain rfl : j = n3 := by omega
          have hall := hni.out
          rw [List.take_of_length_le (by rw [HN3.out]; omega)] at hall
          have HE := Lib.hid (show R = true by rw [HQ2.out, hall])
          clear hall hni
          go_wp2_with fail
          go_ret
          exact ⟨by rw [HE.out]; rfl, btr B2 hbi⟩
end Go.Proofs.YtdfkbbcoolgfiaaGreat

namespace Go.Proofs.YtdfkbbcoolgfiaaGreat
open Go.RowKit Go.BigFrame

def leN (s : ByteArray) (x : Le) : Bool := decide (x.name = s)
set_option maxRecDepth 100000 in
set_option maxHeartbeats 4000000 in
theorem rLetter_any (F : Fo) (C : List Value) (c : Nat) (w : World) (hc : c < 256) (h : FoAt w F C) : Calls Tryz.prog 144 #[.agg C.toArray, .int .u8 c] w fun e w' => e = .returned (letV (letterF F c)) ∧ Below w.heap.size w w' := by
  have HO := Lib.hid fun W (hb : Below w.heap.size w W) => rFontMay_any F C W (h.below hb)
  have HN := Lib.hid fun W (hb : Below w.heap.size w W) => rname_any F C c W hc (h.below hb)
  obtain ⟨ok, A, B, E, ca, cb, ce, rfl, h1, h2, h3⟩ := h
  have hll := ok.ll
  obtain ⟨w0, hw0⟩ : ∃ w0 : World, w0 = (w.alloc (.cells (foC F.m (.slice A F.names.length ca) (.slice B F.lets.length cb) (.slice E F.kern.length ce)).toArray 56)).alloc (.cells #[.string { data := #[] }, .string { data := #[] }] 145) := ⟨_, rfl⟩
  have hB0 : Below w.heap.size w w0 := by rw [hw0]; exact bal (bal (Below.refl _ _) _) _
  have hA : BC w0 w.heap.size (foC F.m (.slice A F.names.length ca) (.slice B F.lets.length cb) (.slice E F.kern.length ce)) := by rw [hw0]; exact (BC.new _ 56 rfl).below (bal (Below.refl _ _) _)
  have hZ : BC w0 (w.heap.size + 1) (lec le0) := by rw [hw0]; exact BC.new (w := w.alloc _) (lec le0) 145 (by simp)
  have hs2 := h2.below hB0
  obtain ⟨n2, hn2⟩ : ∃ n, F.lets.length = n := ⟨_, rfl⟩
  have HN2 := Lib.hid hn2
  rw [hn2] at hw0 hA hs2 hll HO HN
  obtain ⟨Y, hY⟩ : ∃ Y, letterF F c = Y := ⟨_, rfl⟩
  have HY := Lib.hid hY
  rw [hY, letV_eq, hn2]
  obtain ⟨s, hs⟩ : ∃ s, nameF F c = s := ⟨_, rfl⟩
  have HS := Lib.hid hs
  rw [hs] at HN
  clear h1 h2 h3 ok hY hs hn2
  go_enter Tryz.func144, Tryz.ntmps144
  go_upto_region 1 with (fail)
  rw [← hw0]
  clear hw0
  go_wp2_with (first
    | (refine wpList_load_rec rfl _ _ rfl w.heap.size rfl _ 9 foT hA rfl ?_)
    | fail)
  refine (HN.out _ hB0).mono ?_; rintro e w1 ⟨rfl, hb1⟩
  have B1 := btr hB0 hb1
  have hA1 := hA.below hb1
  have hZ1 := hZ.below hb1
  have hs2a := hs2.below hb1
  clear hA hZ hb1 hB0 HN hs2
  go_wp2_with (first
    | (refine wpList_load_rec rfl _ _ rfl w.heap.size rfl _ 9 foT hA1 rfl ?_)
    | fail)
  refine (HO.out _ B1).mono ?_; rintro e w2 ⟨rfl, hb2⟩
  have B2 := btr B1 hb2
  have hA2 := hA1.below hb2
  have hZ2 := hZ1.below hb2
  have hs2b := hs2a.below hb2
  clear hA1 hZ1 hb2 B1 HO hs2a
  cases hf : openB F
  · have HE := Lib.hid (show Y = none by rw [← HY.out]; exact letterF_shut hf)
    have hF := hZ2.putAll (lec le0) rfl
    have hFB := below_setCells (show w.heap.size ≤ w.heap.size + 1 by omega) (lec le0) 0 _ B2
    go_wp2_with (first
      | (refine wpList_store_rec rfl _ _ _ rfl (w.heap.size + 1) (lec le0) _ rfl rfl 2 letT hZ2 rfl rfl (lec_one _) ?_)
      | fail)
    refine bodyPost_ret (result_rec rfl rfl rfl letT hF rfl) rfl ?_
    rw [HE.out]
    exact ⟨rfl, hFB⟩
  by_cases gs : s = ByteArray.empty
  · have HE := Lib.hid (show Y = none by rw [← HY.out]; exact letterF_no hf (by rw [HS.out, gs]))
    have gs' : s.toList.isEmpty = true := by rw [str_em]; exact decide_eq_true gs
    clear gs
    have hF := hZ2.putAll (lec le0) rfl
    have hFB := below_setCells (show w.heap.size ≤ w.heap.size + 1 by omega) (lec le0) 0 _ B2
    go_wp2_with (first
      | (refine wpList_store_rec rfl _ _ _ rfl (w.heap.size + 1) (lec le0) _ rfl rfl 2 letT hZ2 rfl rfl (lec_one _) ?_)
      | fail)
    refine bodyPost_ret (result_rec rfl rfl rfl letT hF rfl) rfl ?_
    rw [HE.out]
    exact ⟨rfl, hFB⟩
  have gs' : s.toList.isEmpty = false := by rw [str_em]; exact decide_eq_false gs
  have HF := Lib.hid (show Y = F.lets.find? (leN s) by rw [← HY.out, letterF_yes hf, HS.out]; rfl)
  have a7 := hA2.c 7 _ rfl
  clear gs hf HY HS
  go_wp2_with fail
  go_loopw [7] (fun i wr => ∃ j, j ≤ n2 ∧ i = .int .i64 (j : Int) ∧ Below w2.heap.size w2 wr ∧ Hid ((F.lets.take j).find? (leN s) = none)) (fun i _ => n2 - (intOf i).toNat)
  case atStart => exact ⟨0, by omega, rfl, Below.refl _ _, Lib.hid rfl⟩
  case round =>
    obtain ⟨wo, rfl⟩ : ∃ wo : World, wo = wr := ⟨_, rfl⟩
    obtain ⟨j, hj, rfl, hbr, hal⟩ := hrel
    have hZo := hZ2.below hbr
    have Bo := btr B2 hbr
    have a7o := (hA2.below hbr).c 7 _ rfl
    by_cases hjt : j < n2
    · have hjj : j < F.lets.length := by rw [HN2.out]; exact hjt
      obtain ⟨b, off, rfl, hb, d0, d1⟩ := (hs2b.below hbr).le j hjt hjj
      have hyes := find_yes (f := leN s) hjj hal.out
      have hno := find_no (f := leN s) hjj hal.out
      obtain ⟨x, hx⟩ : ∃ x, x = F.lets[j] := ⟨_, rfl⟩
      rw [← hx] at d0 d1 hyes hno
      have HYES := Lib.hid hyes
      have HNO := Lib.hid hno
      clear hx hyes hno
      by_cases hq : x.name = s
      · have HE := Lib.hid (show Y = some x by rw [HF.out, HYES.out (by unfold leN; exact decide_eq_true hq)])
        have hq' : (x.name.toList == s.toList) = true := by rw [str_eq]; exact decide_eq_true hq
        have hF := hZo.putAll (lec x) rfl
        have hFB := below_setCells (show w.heap.size ≤ w.heap.size + 1 by omega) (lec x) 0 _ Bo
        clear hq
        go_wp2_with (first
          | (refine wpList_store_rec rfl _ _ _ rfl (w.heap.size + 1) (lec x) _ rfl rfl 2 letT hZo rfl rfl (lec_one _) ?_)
          | fail)
        refine bodyPost_ret (result_rec rfl rfl rfl letT hF rfl) rfl ?_
        rw [HE.out]
        exact ⟨rfl, hFB⟩
      · have HA2 := Lib.hid (HNO.out (by unfold leN; exact decide_eq_false hq))
        have hq' : (x.name.toList == s.toList) = false := by rw [str_eq]; exact decide_eq_false hq
        clear hq
        go_wp2_with fail
        go_roundw
        case rel => exact ⟨j + 1, by omega, by go_num, hbr, HA2⟩
        case measure => (simp [intOf]) <;> omega
    · obtain rfl : j = n2 := by omega
      have hall := hal.out
      rw [List.take_of_length_le (by rw [HN2.out]; omega)] at hall
      have HE := Lib.hid (show Y = none by rw [HF.out, hall])
      clear hall hal
      have hF := hZo.putAll (lec le0) rfl
      have hFB := below_setCells (show w.heap.size ≤ w.heap.size + 1 by omega) (lec le0) 0 _ Bo
      go_wp2_with (first
        | (refine wpList_store_rec rfl _ _ _ rfl (w.heap.size + 1) (lec le0) _ rfl rfl 2 letT hZo rfl rfl (lec_one _) ?_)
        | fail)
      refine bodyPost_ret (result_rec rfl rfl rfl letT hF rfl) rfl ?_
      rw [HE.out]
      exact ⟨rfl, hFB⟩
set_option maxRecDepth 100000 in
set_option maxHeartbeats 4000000 in
theorem rKern_any (F : Fo) (C : List Value) (a b : Nat) (w : World) (ha : a < 256) (hb : b < 256) (h : FoAt w F C) : Calls Tryz.prog 106 #[.agg C.toArray, .int .u8 a, .int .u8 b] w fun e w' => e = .returned (.int .i64 (if openB F then kernF F a b else 0)) ∧ Below w.heap.size w w' := by
  have hh := h
  have HO := Lib.hid fun W (hb : Below w.heap.size w W) => rFontMay_any F C W (h.below hb)
  obtain ⟨ok, A, B, E, ca, cb, ce, rfl, h1, h2, h3⟩ := h
  obtain ⟨w0, hw0⟩ : ∃ w0 : World, w0 = w.alloc (.cells (foC F.m (.slice A F.names.length ca) (.slice B F.lets.length cb) (.slice E F.kern.length ce)).toArray 56) := ⟨_, rfl⟩
  have hB0 : Below w.heap.size w w0 := by rw [hw0]; exact bal (Below.refl _ _) _
  have hA : BC w0 w.heap.size (foC F.m (.slice A F.names.length ca) (.slice B F.lets.length cb) (.slice E F.kern.length ce)) := by rw [hw0]; exact BC.new _ 56 rfl
  have hkl := ok.kl
  have hs3 := h3.below hB0
  have hFo : FoAt w F (foC F.m (.slice A F.names.length ca) (.slice B F.lets.length cb) (.slice E F.kern.length ce)) := hh
  have HN := Lib.hid fun (c : Nat) (hc : c < 256) W (hb : Below w0.heap.size w0 W) => rname_any F _ c W hc (hFo.below (btr hB0 hb))
  clear hh hFo
  obtain ⟨n3, hn3⟩ : ∃ n, F.kern.length = n := ⟨_, rfl⟩
  have HN3 := Lib.hid hn3
  rw [hn3] at hkl hs3 hw0 hA HN HO
  rw [hn3]
  clear hn3 h1 h2 h3 ok
  obtain ⟨R, hR⟩ : ∃ R, (if openB F then kernF F a b else 0) = R := ⟨_, rfl⟩
  rw [hR]
  obtain ⟨sa, hsa⟩ : ∃ s, nameF F a = s := ⟨_, rfl⟩
  obtain ⟨sb, hsb⟩ : ∃ s, nameF F b = s := ⟨_, rfl⟩
  have HR2 : Hid (R = if openB F then (if sa.toList.isEmpty || sb.toList.isEmpty then 0 else ((F.kern.find? (prB sa sb)).map Pr.mv).getD 0) else 0) := Lib.hid (by rw [← hR, ← hsa, ← hsb, str_em, str_em]; rfl)
  have HNa := Lib.hid (HN.out a ha)
  have HNb := Lib.hid (HN.out b hb)
  rw [hsa] at HNa
  rw [hsb] at HNb
  clear hsa hsb HN ha hb hR
  have HA := Lib.hid fun (W : World) (hW : ∃ y : Grown w0, W = y.world) => (show BC W w.heap.size _ by obtain ⟨y, rfl⟩ := hW; exact hA.below y.below)
  go_enter Tryz.func106, Tryz.ntmps106
  go_upto_region 1 with (fail)
  rw [← hw0]
  clear hw0
  refine wp_region_ord (fun W => ∃ y : Grown w0, W = y.world) [] 8 (by kernel_rfl) (by kernel_rfl) ⟨⟨_, bdrew (Below.refl _ _)⟩, rfl⟩ ?_
  intro hS
  refine ord_take 0 rfl rfl (by kernel_rfl) (by kernel_rfl) (fun _ _ _ h => h) (yieldsIf_rec (by rfl) _ _ rfl _ rfl _ 9 foT HA.out rfl) hS ?_
  simp only [Act.put, List.setIfInBounds_toArray, List.set_cons_zero, List.set_cons_succ]
  refine ord_take (v := ?_) 1 rfl rfl (by kernel_rfl) (by kernel_rfl) (fun _ _ _ h => h) (Or.inl ⟨by rfl, ?_⟩) hS ?_
  rotate_left
  · rintro W ⟨y, rfl⟩
    go_simp
    (try with_reducible rfl)
  simp only [Act.put, List.setIfInBounds_toArray, List.set_cons_zero, List.set_cons_succ]
  refine ord_take 3 rfl rfl (by kernel_rfl) (by kernel_rfl) (fun _ _ _ h => h) (yieldsIf_rec (by rfl) _ _ rfl _ rfl _ 9 foT HA.out rfl) hS ?_
  simp only [Act.put, List.setIfInBounds_toArray, List.set_cons_zero, List.set_cons_succ]
  refine ord_take (v := ?_) 4 rfl rfl (by kernel_rfl) (by kernel_rfl) (fun _ _ _ h => h) (Or.inl ⟨by rfl, ?_⟩) hS ?_
  rotate_left
  · rintro W ⟨y, rfl⟩
    go_simp
    (try with_reducible rfl)
  simp only [Act.put, List.setIfInBounds_toArray, List.set_cons_zero, List.set_cons_succ]
  have HG := Lib.hid (fun (W : World) (hW : Below w0.heap.size w0 W) => (⟨⟨W, hW⟩, rfl⟩ : ∃ y : Grown w0, W = y.world))
  have HB := bdrew (Below.refl w0.heap.size w0)
  clear hS
  refine ord_one 2 rfl (by kernel_rfl) rfl ?_
  intro K hK
  go_simp
  refine (HNa.out _ HB).mono ?_; rintro e wn ⟨rfl, hbn⟩
  have Hn := btr HB hbn
  refine hK.out _ _ (HG.out _ Hn) ?_
  clear hK K HB hbn
  have HB := Hn
  clear Hn
  try simp only
  have hS := HG.out _ HB
  clear hS
  refine ord_one 5 rfl (by kernel_rfl) rfl ?_
  intro K hK
  go_simp
  refine (HNb.out _ HB).mono ?_; rintro e wn ⟨rfl, hbn⟩
  have Hn := btr HB hbn
  refine hK.out _ _ (HG.out _ Hn) ?_
  clear hK K HB hbn
  have HB := Hn
  clear Hn
  try simp only
  have hS := HG.out _ HB
  refine ord_take (v := ?_) 6 rfl rfl (by kernel_rfl) (by kernel_rfl) (fun _ _ _ h => h) (Or.inl ⟨by rfl, ?_⟩) hS ?_
  rotate_left
  · rintro W ⟨y, rfl⟩
    go_simp
    (try with_reducible rfl)
  simp only [Act.put, List.setIfInBounds_toArray, List.set_cons_zero, List.set_cons_succ]
  refine ord_take (v := ?_) 7 rfl rfl (by kernel_rfl) (by kernel_rfl) (fun _ _ _ h => h) (Or.inl ⟨by rfl, ?_⟩) hS ?_
  rotate_left
  · rintro W ⟨y, rfl⟩
    go_simp
    (try with_reducible rfl)
  simp only [Act.put, List.setIfInBounds_toArray, List.set_cons_zero, List.set_cons_succ]
  clear hS
  refine ⟨by kernel_rfl, ?_⟩
  refine NoPanic.normal ?_
  have hA1 := hA.below HB
  have B1 := btr hB0 HB
  replace hs3 := hs3.below HB
  obtain ⟨w1, hw1⟩ : ∃ w1 : World, w1 = wn := ⟨_, rfl⟩
  rw [← hw1] at hA1 B1 hs3 ⊢
  clear HG HA hA HNa HNb hB0 HB hw1
  go_wp2_with (first
    | (refine wpList_load_rec rfl _ _ rfl w.heap.size rfl _ 9 foT hA1 rfl ?_)
    | fail)
  refine (HO.out _ B1).mono ?_; rintro e w2 ⟨rfl, hb2⟩
  have B2 := btr B1 hb2
  have hA2 := hA1.below hb2
  replace hs3 := hs3.below hb2
  have a8 := hA2.c 8 _ rfl
  clear hA1 B1 hb2 HO
  cases hf : openB F
  · have HE := Lib.hid (show R = 0 by rw [HR2.out, hf]; rfl)
    clear HR2 hf
    go_wp2
    go_ret
    exact ⟨by rw [HE.out]; rfl, B2⟩
  rw [hf, if_pos rfl] at HR2
  clear hf
  cases ga : sa.toList.isEmpty
  · cases gb : sb.toList.isEmpty
    · have HE := Lib.hid (show R = ((F.kern.find? (prB sa sb)).map Pr.mv).getD 0 by rw [HR2.out, ga, gb]; rfl)
      clear HR2
      go_wp2_with fail
      go_loopw [9] (fun i wr => ∃ k, k ≤ n3 ∧ i = .int .i64 (k : Int) ∧ Below w2.heap.size w2 wr ∧ Hid ((F.kern.take k).find? (prB sa sb) = none)) (fun i _ => n3 - (intOf i).toNat)
      case atStart => exact ⟨0, by omega, rfl, Below.refl _ _, Lib.hid rfl⟩
      case round =>
        obtain ⟨wo, rfl⟩ : ∃ wo : World, wo = wr := ⟨_, rfl⟩
        obtain ⟨k, hk, rfl, hbr, hal⟩ := hrel
        have a8o := (hA2.below hbr).c 8 _ rfl
        by_cases hlt : k < n3
        · have hkk : k < F.kern.length := by rw [HN3.out]; exact hlt
          obtain ⟨b, off, rfl, hb, d0, d1, d2⟩ := (hs3.below hbr).pr k hlt hkk
          obtain ⟨x, hx⟩ : ∃ x, x = F.kern[k] := ⟨_, rfl⟩
          have hyes := find_yes (f := prB sa sb) hkk hal.out
          have hno := find_no (f := prB sa sb) hkk hal.out
          rw [← hx] at d0 d1 d2 hno hyes
          have HNO := Lib.hid hno
          have HYES := Lib.hid hyes
          clear hx hno hyes
          by_cases e1 : x.a = sa
          · by_cases e2 : x.b = sb
            · have HE2 := Lib.hid (show R = x.mv by rw [HE.out, HYES.out (by unfold prB; rw [decide_eq_true e1, decide_eq_true e2]; rfl)]; rfl)
              have e1' : (x.a.toList == sa.toList) = true := by rw [str_eq]; exact decide_eq_true e1
              have e2' : (x.b.toList == sb.toList) = true := by rw [str_eq]; exact decide_eq_true e2
              clear HNO HYES e1 e2 HE
              go_wp2
              go_ret
              exact ⟨by rw [HE2.out]; rfl, btr B2 hbr⟩
            · have HF2 := Lib.hid (HNO.out (by unfold prB; rw [decide_eq_false e2, Bool.and_false]))
              have e1' : (x.a.toList == sa.toList) = true := by rw [str_eq]; exact decide_eq_true e1
              have e2' : (x.b.toList == sb.toList) = false := by rw [str_eq]; exact decide_eq_false e2
              clear HNO HYES e1 e2
              go_wp2_with fail
              go_roundw
              case rel => exact ⟨k + 1, by omega, by go_num, hbr, HF2⟩
              case measure => (simp [intOf]) <;> omega
          · have HF2 := Lib.hid (HNO.out (by unfold prB; rw [decide_eq_false e1, Bool.false_and]))
            have e1' : (x.a.toList == sa.toList) = false := by rw [str_eq]; exact decide_eq_false e1
            clear HNO HYES e1
            go_wp2_with fail
            go_roundw
            case rel => exact ⟨k + 1, by omega, by go_num, hbr, HF2⟩
            case measure => (simp [intOf]) <;> omega
        · obtain rfl : k = n3 := by omega
          have hall := hal.out
          rw [List.take_of_length_le (by rw [HN3.out]; omega)] at hall
          have HE2 := Lib.hid (show R = 0 by rw [HE.out, hall]; rfl)
          clear hall hal HE
          go_wp2
          go_ret
          exact ⟨by rw [HE2.out]; rfl, btr B2 hbr⟩
    · have HE := Lib.hid (show R = 0 by rw [HR2.out, gb, Bool.or_true]; rfl)
      clear HR2
      go_wp2
      go_ret
      exact ⟨by rw [HE.out]; rfl, B2⟩
  · have HE := Lib.hid (show R = 0 by rw [HR2.out, ga]; rfl)
    clear HR2
    go_wp2
    go_ret
    exact ⟨by rw [HE.out]; rfl, B2⟩
end Go.Proofs.YtdfkbbcoolgfiaaGreat
