/- The reference: tympanref10.May of a Dict; Rule, Clips, dash, May of a state. -/
import Derived.Test.YtdfkbbcoolgfiaaGreatMSt
import Derived.Test.YtdfkbbcoolgfiaaGreatMS4
import Derived.Test.YtdfkbbcoolgfiaaGreatMRM
import Derived.Test.YtdfkbbcoolgfiaaGreatMS9
import Derived.Test.YtdfkbbcoolgfiaaGreatMRA
namespace Go.Proofs.YtdfkbbcoolgfiaaGreat
open Go.RowKit Go.BigFrame

set_option maxRecDepth 100000 in
theorem rRule_any (v : Int) (w : World) : Calls Tryz.prog 27 #[.int .i64 v] w fun e w' => e = .returned (.bool (ruleB v)) ∧ w = w' := by
  have hs : ruleB v = (v == 0 || v == 1) := rfl
  rw [hs]
  clear hs
  go_enter Tryz.func27, Tryz.ntmps27
  go_wp2
  all_goals
    go_ret
    refine ⟨?_, rfl⟩
    first | rfl | (simp_all; done) | (simp_all; omega)
set_option maxRecDepth 100000 in
set_option maxHeartbeats 1000000 in
theorem rClips_any (A : Option Addr) (n c : Nat) (l : List Cl) (w : World) (h : ClSl w A l) (hln : l.length = n) (hn : n ≤ 1000) (hp : ∀ k ∈ l, k.p.length ≤ 1000) :
    Calls Tryz.prog 63 #[.slice A n c] w fun e w' => e = .returned (.bool (clsB l)) ∧ Below w.heap.size w w' := by
  obtain ⟨q, hq⟩ : ∃ q, clsB l = q := ⟨_, rfl⟩
  rw [hq]
  have HQ := Lib.hid hq
  have HC := Lib.hid h
  have HL := Lib.hid hln
  have HP := Lib.hid hp
  clear hq h hln hp
  go_enter Tryz.func63, Tryz.ntmps63
  go_wp2_with fail
  go_loopw [3] (fun s3 wr => ∃ i : Nat, i ≤ n ∧ s3 = .int .i64 (i : Int) ∧ Below w.heap.size w wr ∧ Hid ((l.take i).all clB = true)) (fun s3 _ => n - (intOf s3).toNat)
  case atStart => exact ⟨0, Nat.zero_le _, rfl, Below.refl _ _, by simp [Hid]⟩
  case round =>
    obtain ⟨i, hi, rfl, G, hcl⟩ := hrel
    by_cases hlt : i < n
    · have hlc : i < l.length := by rw [HL.out]; exact hlt
      obtain ⟨b, off, Ae, ce, rfl, hbl, c0, c1, hs, hce, hcm2⟩ := (HC.out.below G).get i hlc
      have hpl := HP.out _ (List.getElem_mem hlc)
      obtain ⟨k, hk⟩ : ∃ k, l[i] = k := ⟨_, rfl⟩
      rw [hk] at c0 c1 hs hce hpl
      have HK := Lib.hid hk
      obtain ⟨ne, hne⟩ : ∃ n, n = k.p.length := ⟨_, rfl⟩
      rw [← hne] at c0 hs hce hpl
      have HS := Lib.hid hs
      clear hk hne hs
      go_wp2_with fail
      refine (rRule_any k.rule _).mono ?_; rintro e w5 ⟨rfl, rfl⟩
      cases hkr : ruleB k.rule
      · have hbad : clsB l = false := by unfold clsB; rw [all_out clB l i hlc (by rw [HK.out]; simp [clB, hkr])]; simp
        go_wp2_with fail
        try rw [Exit.noGoto_ret]
        go_ret
        exact ⟨ret_bool (by rw [← HQ.out, hbad]), G⟩
      · go_wp2_with fail
        refine (ref_May_any Ae ne ce k.p _ (by omega) HS.out).mono ?_; rintro e w4 ⟨rfl, hb4⟩
        have G4 := btr G hb4
        clear hb4
        cases hkp : mayB k.p
        · have hbad : clsB l = false := by unfold clsB; rw [all_out clB l i hlc (by rw [HK.out]; simp [clB, hkp])]; simp
          go_wp2_with fail
          try rw [Exit.noGoto_ret]
          go_ret
          exact ⟨ret_bool (by rw [← HQ.out, hbad]), G4⟩
        · go_wp2_with fail
          go_roundw
          case rel => exact ⟨i + 1, by omega, by go_num, G4, by show List.all _ _ = true; rw [all_take clB l i hlc, hcl.out, HK.out]; simp [clB, hkp, hkr]⟩
          case measure => simp [intOf]; omega
    · have hok : clsB l = decide (n ≤ 10) := by
        have := hcl.out
        rw [List.take_of_length_le (by rw [HL.out]; omega)] at this
        unfold clsB; rw [this, HL.out]; simp
      have HOK := Lib.hid hok
      clear hok hcl
      go_wp2_with fail
      go_ret
      refine ⟨ret_bool ?_, G⟩
      rw [← HQ.out, HOK.out]
      simp
      try omega
set_option maxRecDepth 100000 in
set_option maxHeartbeats 1000000 in
theorem rDash_any (A : Option Addr) (n c : Nat) (l : List Int) (w : World) (h : Sl w 1 A n (ints l)) (hln : l.length = n) (hn : n ≤ 1000) :
    Calls Tryz.prog 64 #[.slice A n c] w fun e w' => e = .returned (.bool (dashB l)) ∧ Below w.heap.size w w' := by
  obtain ⟨q, hq⟩ : ∃ q, dashB l = q := ⟨_, rfl⟩
  rw [hq]
  have HQ := Lib.hid hq
  have HD := Lib.hid h
  have HL := Lib.hid hln
  clear hq h hln
  go_enter Tryz.func64, Tryz.ntmps64
  go_wp2_with fail
  go_loopw [3, 4] (fun s3 s4 wr => ∃ (i : Nat) (b : Bool), i ≤ n ∧ s3 = .bool b ∧ s4 = .int .i64 (i : Int) ∧ w = wr ∧ Hid ((l.take i).all (fun d => inB d 0 1073741823) = true) ∧ Hid (b = (l.isEmpty || (l.take i).any fun d => decide (0 < d)))) (fun _ s4 _ => n - (intOf s4).toNat)
  case atStart =>
    refine ⟨0, _, Nat.zero_le _, rfl, rfl, rfl, by simp [Hid], ?_⟩
    refine Lib.hid ?_
    rw [← HL.out]
    cases l <;> simp <;> omega
  case round =>
    obtain ⟨i, b, hi, rfl, rfl, rfl, hda, hdp⟩ := hrel
    by_cases hlt : i < n
    · have hld : i < l.length := by rw [HL.out]; exact hlt
      obtain ⟨g, off, rfl, hbl, hcd⟩ := HD.out.2 (by omega)
      obtain ⟨z, hz⟩ : ∃ z, z = l[i] := ⟨_, rfl⟩
      have hx : w.cell? ⟨g, off + i, none⟩ = some (.int .i64 z) := hcd i _ (by simp [ints, hz, List.getElem?_eq_getElem hld])
      have HZ := Lib.hid hz
      clear hz hcd
      by_cases hz0 : z < 0
      · have hbad : dashB l = false := by unfold dashB; rw [all_out (fun d => inB d 0 1073741823) l i hld (by rw [← HZ.out]; simp [inB]; omega)]; simp
        go_wp2_with fail
        try rw [Exit.noGoto_ret]
        go_ret
        exact ⟨ret_bool (by rw [← HQ.out, hbad]), Below.refl _ _⟩
      · by_cases hz1 : 1073741823 < z
        · have hbad : dashB l = false := by unfold dashB; rw [all_out (fun d => inB d 0 1073741823) l i hld (by rw [← HZ.out]; simp [inB]; omega)]; simp
          go_wp2_with fail
          try rw [Exit.noGoto_ret]
          go_ret
          exact ⟨ret_bool (by rw [← HQ.out, hbad]), Below.refl _ _⟩
        · have HA2 : Hid ((l.take (i + 1)).all (fun d => inB d 0 1073741823) = true) := Lib.hid (by
            rw [all_take (fun d => inB d 0 1073741823) l i hld, hda.out, ← HZ.out]; simp [inB]; omega)
          have HB2 : Hid ((b || decide (0 < z)) = (l.isEmpty || (l.take (i + 1)).any fun d => decide (0 < d))) := Lib.hid (by
            rw [List.take_succ_eq_append_getElem hld, List.any_append, hdp.out, HZ.out]
            simp [Bool.or_assoc])
          clear hda hdp
          cases b
          · by_cases hzp : 0 < z
            · go_wp2_with fail
              go_roundw
              case rel => exact ⟨i + 1, _, by omega, rfl, by go_num, by trivial, HA2, by have := HB2.out; simp [hzp] at this; simpa using Lib.hid this⟩
              case measure => simp [intOf]; omega
            · go_wp2_with fail
              go_roundw
              case rel => exact ⟨i + 1, _, by omega, rfl, by go_num, by trivial, HA2, by have := HB2.out; simp [hzp] at this; simpa using Lib.hid this⟩
              case measure => simp [intOf]; omega
          · go_wp2_with fail
            go_roundw
            case rel => exact ⟨i + 1, _, by omega, rfl, by go_num, by trivial, HA2, by have := HB2.out; simpa using HB2⟩
            case measure => simp [intOf]; omega
    · have hok : dashB l = (b && decide (n ≤ 11)) := by
        have h1 := hda.out
        have h2 := hdp.out
        rw [List.take_of_length_le (by rw [HL.out]; omega)] at h1 h2
        unfold dashB
        rw [h1, ← h2, HL.out, Bool.and_true, Bool.and_comm]
      have HOK := Lib.hid hok
      clear hok hda hdp
      cases b
      · go_wp2_with fail
        go_ret
        exact ⟨ret_bool (by rw [← HQ.out, HOK.out]; simp <;> omega), Below.refl _ _⟩
      · go_wp2_with fail
        go_ret
        exact ⟨ret_bool (by rw [← HQ.out, HOK.out]; simp <;> omega), Below.refl _ _⟩
theorem dict_lo {o : Ob} (h : o.n < 0) : ((10 : Int) == 10 && (o.ex == o.ex) && o.n == 0 && o.at_ == 0 && o.ln == 0 && o.s.toList.isEmpty) = dictB o := by
  have h1 : (o.n == 0) = false := by simp; omega
  have h2 : decide (0 ≤ o.n) = false := by simp; omega
  unfold dictB inB
  rw [h1, h2]; simp
theorem dict_hi {o : Ob} (h : 40000 < o.n) : ((10 : Int) == 10 && (o.ex == o.ex) && o.n == 40000 && o.at_ == 0 && o.ln == 0 && o.s.toList.isEmpty) = dictB o := by
  have h1 : (o.n == 40000) = false := by simp; omega
  have h2 : decide (o.n ≤ 40000) = false := by simp; omega
  unfold dictB inB
  rw [h1, h2]; simp
theorem dict_mid {o : Ob} (h : ¬ o.n < 0) (h' : ¬ 40000 < o.n) : ((10 : Int) == 10 && (o.ex == o.ex) && o.n == o.n && o.at_ == 0 && o.ln == 0 && o.s.toList.isEmpty) = dictB o := by
  have h1 : decide (0 ≤ o.n) = true := by simp; omega
  have h2 : decide (o.n ≤ 40000) = true := by simp; omega
  unfold dictB inB
  rw [h1, h2]; simp
set_option maxRecDepth 100000 in
set_option maxHeartbeats 1000000 in
theorem rObj_dict (o : Ob) (w : World) (hk : o.k = 10) : Calls Tryz.prog 65 #[obv o] w fun e w' => e = .returned (.bool (dictB o)) ∧ Below w.heap.size w w' := by
  obtain ⟨w0, hw0⟩ : ∃ w0 : World, w0 = w.alloc (.cells (obC o).toArray 30) := ⟨_, rfl⟩
  have hB0 : Below w.heap.size w w0 := by rw [hw0]; exact bal (Below.refl _ _) _
  have hA : BC w0 w.heap.size (obC o) := by rw [hw0]; exact BC.new (obC o) 30 rfl
  have hlt := hA.lt
  obtain ⟨w1, hw1⟩ : ∃ w1, w1 = w0.alloc (.cells (obC ⟨10, o.ex, 0, 0, 0, emptyS⟩).toArray 30) := ⟨_, rfl⟩
  have p1 : BC w1 w0.heap.size (obC ⟨10, o.ex, 0, 0, 0, emptyS⟩) := by rw [hw1]; exact BC.new _ 30 rfl
  have A1 : BC w1 w.heap.size (obC o) := by rw [hw1]; exact hA.below (bal (Below.refl _ _) _)
  have B1 : Below w.heap.size w w1 := by rw [hw1]; exact bal hB0 _
  have a0 := hA.c 0 _ rfl
  have a1 := hA.c 1 _ rfl
  have b0 := A1.c 0 _ rfl
  have b2 := A1.c 2 _ rfl
  have f2 := p1.nf 2
  have g2 := p1.c 2 _ rfl
  have hoc : obC o = [.int .i64 10, .bool o.ex, .int .i64 o.n, .int .i64 o.at_, .int .i64 o.ln, .string o.s] := by unfold obC; rw [hk]
  unfold obv
  rw [hoc] at hw0 A1 ⊢
  rw [hk] at a0 b0
  simp only at a0 a1 b0 b2 g2
  clear hoc
  unfold obC emptyS at hw1
  clear hk
  obtain ⟨qq, hqq⟩ : ∃ qq, dictB o = qq := ⟨_, rfl⟩
  rw [hqq]
  have HQQ := Lib.hid hqq
  clear hqq
  go_enter Tryz.func65, Tryz.ntmps65
  go_upto_region 1 with (fail)
  rw [← hw0]
  clear hw0
  go_upto_region 2 with (fail)
  rw [← hw1]
  clear hw1 hA
  by_cases h1 : o.n < 0
  · have p2 : BC (w1.setCell ⟨w0.heap.size, 2, none⟩ (.int .i64 (0))) w0.heap.size [.int .i64 10, .bool o.ex, .int .i64 (0), .int .i64 0, .int .i64 0, .string { data := #[] }] := p1.set 2 (.int .i64 (0)) (by show 2 < 6; omega)
    have q2 := A1.apart1 (show w.heap.size ≠ w0.heap.size by omega) 2 (.int .i64 (0))
    have B2 := bset B1 (p := ⟨w0.heap.size, 2, none⟩) (show w.heap.size ≤ w0.heap.size by omega) (.int .i64 (0))
    obtain ⟨w2, hw2⟩ : ∃ w2, w2 = w1.setCell ⟨w0.heap.size, 2, none⟩ (.int .i64 (0)) := ⟨_, rfl⟩
    rw [← hw2] at p2 q2 B2
    have HW2 := Lib.hid hw2
    clear hw2
    have hE := fun W => eql_ob ⟨10, o.ex, o.n, o.at_, o.ln, o.s⟩ 10 (0) 0 0 o.ex W
    unfold obv obC at hE
    have hval : ((10 : Int) == 10 && (o.ex == o.ex) && o.n == (0) && o.at_ == 0 && o.ln == 0 && o.s.toList.isEmpty) = dictB o := dict_lo h1
    simp only at hE
    rw [hval] at hE
    clear hval
    rw [HQQ.out] at hE
    go_upto_region 24 with (fail)
    rw [← HW2.out]
    go_wp2_with (first
      | (refine wpList_load_rec rfl _ _ rfl w.heap.size rfl _ 6 obT q2 rfl ?_)
      | (refine wpList_load_rec rfl _ _ rfl w0.heap.size rfl _ 6 obT p2 rfl ?_)
      | fail)
    try rw [Exit.noGoto_ret]
    go_ret
    exact ⟨by first | trivial | exact ret_bool rfl, B2⟩
  · by_cases h2 : 40000 < o.n
    · have p2 : BC (w1.setCell ⟨w0.heap.size, 2, none⟩ (.int .i64 (40000))) w0.heap.size [.int .i64 10, .bool o.ex, .int .i64 (40000), .int .i64 0, .int .i64 0, .string { data := #[] }] := p1.set 2 (.int .i64 (40000)) (by show 2 < 6; omega)
      have q2 := A1.apart1 (show w.heap.size ≠ w0.heap.size by omega) 2 (.int .i64 (40000))
      have B2 := bset B1 (p := ⟨w0.heap.size, 2, none⟩) (show w.heap.size ≤ w0.heap.size by omega) (.int .i64 (40000))
      obtain ⟨w2, hw2⟩ : ∃ w2, w2 = w1.setCell ⟨w0.heap.size, 2, none⟩ (.int .i64 (40000)) := ⟨_, rfl⟩
      rw [← hw2] at p2 q2 B2
      have HW2 := Lib.hid hw2
      clear hw2
      have hE := fun W => eql_ob ⟨10, o.ex, o.n, o.at_, o.ln, o.s⟩ 10 (40000) 0 0 o.ex W
      unfold obv obC at hE
      have hval : ((10 : Int) == 10 && (o.ex == o.ex) && o.n == (40000) && o.at_ == 0 && o.ln == 0 && o.s.toList.isEmpty) = dictB o := dict_hi h2
      simp only at hE
      rw [hval] at hE
      clear hval
      rw [HQQ.out] at hE
      go_upto_region 24 with (fail)
      rw [← HW2.out]
      go_wp2_with (first
        | (refine wpList_load_rec rfl _ _ rfl w.heap.size rfl _ 6 obT q2 rfl ?_)
        | (refine wpList_load_rec rfl _ _ rfl w0.heap.size rfl _ 6 obT p2 rfl ?_)
        | fail)
      try rw [Exit.noGoto_ret]
      go_ret
      exact ⟨by first | trivial | exact ret_bool rfl, B2⟩
    · have p2 : BC (w1.setCell ⟨w0.heap.size, 2, none⟩ (.int .i64 (o.n))) w0.heap.size [.int .i64 10, .bool o.ex, .int .i64 (o.n), .int .i64 0, .int .i64 0, .string { data := #[] }] := p1.set 2 (.int .i64 (o.n)) (by show 2 < 6; omega)
      have q2 := A1.apart1 (show w.heap.size ≠ w0.heap.size by omega) 2 (.int .i64 (o.n))
      have B2 := bset B1 (p := ⟨w0.heap.size, 2, none⟩) (show w.heap.size ≤ w0.heap.size by omega) (.int .i64 (o.n))
      obtain ⟨w2, hw2⟩ : ∃ w2, w2 = w1.setCell ⟨w0.heap.size, 2, none⟩ (.int .i64 (o.n)) := ⟨_, rfl⟩
      rw [← hw2] at p2 q2 B2
      have HW2 := Lib.hid hw2
      clear hw2
      have hE := fun W => eql_ob ⟨10, o.ex, o.n, o.at_, o.ln, o.s⟩ 10 (o.n) 0 0 o.ex W
      unfold obv obC at hE
      have hval : ((10 : Int) == 10 && (o.ex == o.ex) && o.n == (o.n) && o.at_ == 0 && o.ln == 0 && o.s.toList.isEmpty) = dictB o := dict_mid h1 h2
      simp only at hE
      rw [hval] at hE
      clear hval
      rw [HQQ.out] at hE
      go_upto_region 24 with (fail)
      rw [← HW2.out]
      go_wp2_with (first
        | (refine wpList_load_rec rfl _ _ rfl w.heap.size rfl _ 6 obT q2 rfl ?_)
        | (refine wpList_load_rec rfl _ _ rfl w0.heap.size rfl _ 6 obT p2 rfl ?_)
        | fail)
      try rw [Exit.noGoto_ret]
      go_ret
      exact ⟨by first | trivial | exact ret_bool rfl, B2⟩
set_option maxRecDepth 100000 in
set_option maxHeartbeats 4000000 in
theorem rStMay_any (x : St) (P C D : Value) (w : World) (h : StAt w x P C D) (hf : stFew x) : Calls Tryz.prog 26 #[.agg (stC x P C D).toArray] w fun e w' => e = .returned (.bool (mayS x)) ∧ Below w.heap.size w w' := by
  obtain ⟨w0, hw0⟩ : ∃ w0 : World, w0 = w.alloc (.cells (stC x P C D).toArray 32) := ⟨_, rfl⟩
  have hB0 : Below w.heap.size w w0 := by rw [hw0]; exact bal (Below.refl _ _) _
  have hA : BC w0 w.heap.size (stC x P C D) := by rw [hw0]; exact BC.new (stC x P C D) 32 rfl
  have h0 := h.below hB0
  clear h
  obtain ⟨⟨Ap, cp, rfl, hp, hpc, hpm⟩, hcv, ⟨Ad, cd, rfl, hd, hdc, hdm⟩⟩ := h0
  obtain ⟨Ac, cc, rfl, hc, hcc, hcm⟩ := hcv.sl
  clear hcv
  obtain ⟨q, hq⟩ : ∃ q, mayS x = q := ⟨_, rfl⟩
  have HQ := Lib.hid hq
  rw [hq]
  clear hq
  have HMm := Lib.hid fun W => rMay_any x.m W
  unfold mtv at HMm
  obtain ⟨n1, n2, n3, n4⟩ := hf
  obtain ⟨np, hnp⟩ : ∃ n, n = x.p.length := ⟨_, rfl⟩
  obtain ⟨nc, hnc⟩ : ∃ n, n = x.cl.length := ⟨_, rfl⟩
  obtain ⟨nd, hnd⟩ : ∃ n, n = x.da.length := ⟨_, rfl⟩
  rw [← hnp] at hA hw0 hp hpc n1 ⊢
  rw [← hnc] at hA hw0 hcc n2 ⊢
  rw [← hnd] at hA hw0 hd hdc n4 ⊢
  have HNP := Lib.hid hnp
  have HNC := Lib.hid hnc
  have HND := Lib.hid hnd
  have HN3 := Lib.hid n3
  have HA := Lib.hid hA
  have HP := Lib.hid hp
  have HC := Lib.hid hc
  have HD := Lib.hid hd
  have c0 := hA.c 0 _ rfl
  have c1 := hA.c 1 _ rfl
  have c2 := hA.c 2 _ rfl
  have c3 := hA.c 3 _ rfl
  have c4 := hA.c 4 _ rfl
  have c5 := hA.c 5 _ rfl
  clear hnp hnc hnd hA hp hc hd n3
  go_enter Tryz.func26, Tryz.ntmps26
  go_upto_region 1 with (fail)
  rw [← hw0]
  clear hw0
  go_wp2_with fail
  refine (HMm.out _).mono ?_; rintro e w1 ⟨rfl, G1⟩
  have B1 := btr hB0 G1
  have a6 := (HA.out.below G1).c 6 _ rfl
  clear c0 c1 c2 c3 c4 c5
  cases hm : mtB x.m
  case false =>
    go_wp2_with fail
    all_goals
      try rw [Exit.noGoto_ret]
      go_ret
      exact ⟨ret_bool (by rw [← HQ.out]; unfold mayS; simp [*]), B1⟩
  go_wp2_with fail
  refine (ref_May_any Ap np cp x.p _ (by omega) (HP.out.below G1)).mono ?_; rintro e w2 ⟨rfl, hb2⟩
  have B2 := btr B1 hb2
  have G2 := btr G1 hb2
  have a7 := (HA.out.below G2).c 7 _ rfl
  clear a6 hb2
  cases hmp : mayB x.p
  case false =>
    go_wp2_with fail
    all_goals
      try rw [Exit.noGoto_ret]
      go_ret
      exact ⟨ret_bool (by rw [← HQ.out]; unfold mayS; simp [*]), B2⟩
  go_wp2_with fail
  refine (rClips_any Ac nc cc x.cl _ (HC.out.below G2) HNC.out.symm (by omega) HN3.out).mono ?_; rintro e w3 ⟨rfl, hb3⟩
  have B3 := btr B2 hb3
  have G3 := btr G2 hb3
  have a12 := (HA.out.below G3).c 12 _ rfl
  have a15 := (HA.out.below G3).c 15 _ rfl
  clear a7 hb3
  cases hcl : clsB x.cl
  case false =>
    go_wp2_with fail
    all_goals
      try rw [Exit.noGoto_ret]
      go_ret
      exact ⟨ret_bool (by rw [← HQ.out]; unfold mayS; simp [*]), B3⟩
  by_cases hw1 : x.wide < 0
  case pos =>
    have hd0 : decide (x.wide < 0) = true := by simp; omega
    have hb0 : inB x.wide 0 1073741823 = false := by simp [inB]; omega
    have hbad : restB x = false := by unfold restB; simp [hb0]
    go_wp2_with fail
    all_goals
      try rw [Exit.noGoto_ret]
      go_ret
      exact ⟨ret_bool (by rw [← HQ.out]; unfold mayS; simp [*]), B3⟩
  have hd0 : decide (x.wide < 0) = false := by simp; omega
  by_cases hw2 : 1073741823 < x.wide
  case pos =>
    have hd1 : decide (1073741823 < x.wide) = true := by simp; omega
    have hb0 : inB x.wide 0 1073741823 = false := by simp [inB]; omega
    have hbad : restB x = false := by unfold restB; simp [hb0]
    go_wp2_with fail
    all_goals
      try rw [Exit.noGoto_ret]
      go_ret
      exact ⟨ret_bool (by rw [← HQ.out]; unfold mayS; simp [*]), B3⟩
  have hd1 : decide (1073741823 < x.wide) = false := by simp; omega
  have HWI : Hid (inB x.wide 0 1073741823 = true) := Lib.hid (by simp [inB]; omega)
  go_wp2_with fail
  refine (rDash_any Ad nd cd x.da _ (HD.out.below G3) HND.out.symm (by omega)).mono ?_; rintro e w4 ⟨rfl, hb4⟩
  have B4 := btr B3 hb4
  have G4 := btr G3 hb4
  have AR := HA.out.below G4
  clear a12 a15 hb4 hw1 hw2 hd0 hd1
  cases hdb : dashB x.da
  case false =>
    go_wp2_with fail
    all_goals
      try rw [Exit.noGoto_ret]
      go_ret
      exact ⟨ret_bool (by rw [← HQ.out]; unfold mayS; simp [*]), B4⟩
  have f0 := AR.c 17 _ rfl
  have f1 := AR.c 18 _ rfl
  have f2 := AR.c 19 _ rfl
  have f3 := AR.c 20 _ rfl
  have f4 := AR.c 21 _ rfl
  have f5 := AR.c 22 _ rfl
  have hne := fun W => eql_ob x.f 0 0 0 0 false W
  obtain ⟨qz, hqz⟩ : ∃ q, obZ x.f = q := ⟨_, rfl⟩
  have hz2 : (x.f.k == 0 && (x.f.ex == false) && x.f.n == 0 && x.f.at_ == 0 && x.f.ln == 0 && x.f.s.toList.isEmpty) = qz := by rw [← hqz]; unfold obZ; cases x.f.ex <;> rfl
  rw [hz2] at hne
  unfold obv obC at hne
  have HQZ := Lib.hid hqz
  clear hz2 hqz
  cases qz
  · by_cases hk : x.f.k = 10
    · have HKK := Lib.hid hk
      have HMd := Lib.hid fun W => rObj_dict x.f W hk
      unfold obv obC at HMd
      rw [hk] at HMd f0 hne
      clear hk
      go_wp2_with fail
      refine (HMd.out _).mono ?_; rintro e w7 ⟨rfl, hb7⟩
      have B7 := btr B4 hb7
      have A7 := AR.below hb7
      clear f0 f1 f2 f3 f4 f5 hne hb7
      cases hdk : dictB x.f
      · have hbad : fontB x.f = false := by unfold fontB; rw [HQZ.out, hdk]; simp
        go_wp2_with fail
        all_goals
          try rw [Exit.noGoto_ret]
          go_ret
          exact ⟨ret_bool (by rw [← HQ.out]; unfold mayS; simp [*]), B7⟩
      · have hfo : fontB x.f = true := by unfold fontB; rw [hdk, HKK.out]; simp
        have w13 := (A7).c 13 _ rfl
        have w14 := (A7).c 14 _ rfl
        have w16 := (A7).c 16 _ rfl
        have w23 := (A7).c 23 _ rfl
        by_cases hr2 : 0 ≤ x.cap
        case neg =>
          have hd0 : decide (0 ≤ x.cap) = false := by simp; omega
          have hb0 : inB x.cap 0 2 = false := by unfold inB; rw [hd0]; rfl
          have hbad : restB x = false := by unfold restB; simp [hb0]
          go_wp2_with fail
          all_goals
            try rw [Exit.noGoto_ret]
            go_ret
            exact ⟨ret_bool (by rw [← HQ.out]; unfold mayS; simp [*]), B7⟩
        have hd2 : decide (0 ≤ x.cap) = true := by simp; omega
        by_cases hr3 : x.cap ≤ 2
        case neg =>
          have hd0 : decide (x.cap ≤ 2) = false := by simp; omega
          have hb0 : inB x.cap 0 2 = false := by unfold inB; rw [hd0]; simp
          have hbad : restB x = false := by unfold restB; simp [hb0]
          go_wp2_with fail
          all_goals
            try rw [Exit.noGoto_ret]
            go_ret
            exact ⟨ret_bool (by rw [← HQ.out]; unfold mayS; simp [*]), B7⟩
        have hd3 : decide (x.cap ≤ 2) = true := by simp; omega
        by_cases hr4 : x.join = 0 ∨ x.join = 1
        case neg =>
          have hb0 : inB x.join 0 1 = false := by simp [inB]; omega
          have hj0 : (x.join == 0) = false := by simp; omega
          have hj1 : (x.join == 1) = false := by simp; omega
          have hbad : restB x = false := by unfold restB; simp [hb0]
          go_wp2_with fail
          all_goals
            try rw [Exit.noGoto_ret]
            go_ret
            exact ⟨ret_bool (by rw [← HQ.out]; unfold mayS; simp [*]), B7⟩
        by_cases hr5 : 0 ≤ x.ph
        case neg =>
          have hd0 : decide (0 ≤ x.ph) = false := by simp; omega
          have hb0 : inB x.ph 0 1073741823 = false := by unfold inB; rw [hd0]; rfl
          rcases hr4 with hr4 | hr4
          · have hbad : restB x = false := by unfold restB; simp [hb0]
            go_wp2_with fail
            all_goals
              try rw [Exit.noGoto_ret]
              go_ret
              exact ⟨ret_bool (by rw [← HQ.out]; unfold mayS; simp [*]), B7⟩
          · have hbad : restB x = false := by unfold restB; simp [hb0]
            go_wp2_with fail
            all_goals
              try rw [Exit.noGoto_ret]
              go_ret
              exact ⟨ret_bool (by rw [← HQ.out]; unfold mayS; simp [*]), B7⟩
        have hd5 : decide (0 ≤ x.ph) = true := by simp; omega
        by_cases hr6 : x.ph ≤ 1073741823
        case neg =>
          have hd0 : decide (x.ph ≤ 1073741823) = false := by simp; omega
          have hb0 : inB x.ph 0 1073741823 = false := by unfold inB; rw [hd0]; simp
          rcases hr4 with hr4 | hr4
          · have hbad : restB x = false := by unfold restB; simp [hb0]
            go_wp2_with fail
            all_goals
              try rw [Exit.noGoto_ret]
              go_ret
              exact ⟨ret_bool (by rw [← HQ.out]; unfold mayS; simp [*]), B7⟩
          · have hbad : restB x = false := by unfold restB; simp [hb0]
            go_wp2_with fail
            all_goals
              try rw [Exit.noGoto_ret]
              go_ret
              exact ⟨ret_bool (by rw [← HQ.out]; unfold mayS; simp [*]), B7⟩
        have hd6 : decide (x.ph ≤ 1073741823) = true := by simp; omega
        have hrest : restB x = fixB x.sz := by
          unfold restB
          have b1 : inB x.cap 0 2 = true := by simp [inB]; omega
          have b2 : inB x.join 0 1 = true := by simp [inB]; omega
          have b3 : inB x.ph 0 1073741823 = true := by simp [inB]; omega
          rw [HWI.out, b1, b2, b3]
          rfl
        have HREST := Lib.hid hrest
        clear hrest
        rcases hr4 with hr4 | hr4
        · go_wp2_with fail
          refine (rIsFix_any x.sz _).mono ?_; rintro e w' ⟨rfl, rfl⟩
          go_wp2_with fail
          go_ret
          refine ⟨ret_bool ?_, B7⟩
          rw [← HQ.out]; unfold mayS; rw [hm, hmp, hcl, hdb, hfo, HREST.out]; simp
        · go_wp2_with fail
          refine (rIsFix_any x.sz _).mono ?_; rintro e w' ⟨rfl, rfl⟩
          go_wp2_with fail
          go_ret
          refine ⟨ret_bool ?_, B7⟩
          rw [← HQ.out]; unfold mayS; rw [hm, hmp, hcl, hdb, hfo, HREST.out]; simp
    · have hbad : fontB x.f = false := by unfold fontB; rw [HQZ.out]; simp [hk]
      have hk0 : (x.f.k == 10) = false := by simp [hk]
      go_wp2_with fail
      all_goals
        try rw [Exit.noGoto_ret]
        go_ret
        exact ⟨ret_bool (by rw [← HQ.out]; unfold mayS; simp [*]), B4⟩
  · have hfo : fontB x.f = true := by unfold fontB; rw [HQZ.out]; rfl
    have w13 := (AR).c 13 _ rfl
    have w14 := (AR).c 14 _ rfl
    have w16 := (AR).c 16 _ rfl
    have w23 := (AR).c 23 _ rfl
    by_cases hr2 : 0 ≤ x.cap
    case neg =>
      have hd0 : decide (0 ≤ x.cap) = false := by simp; omega
      have hb0 : inB x.cap 0 2 = false := by unfold inB; rw [hd0]; rfl
      have hbad : restB x = false := by unfold restB; simp [hb0]
      go_wp2_with fail
      all_goals
        try rw [Exit.noGoto_ret]
        go_ret
        exact ⟨ret_bool (by rw [← HQ.out]; unfold mayS; simp [*]), B4⟩
    have hd2 : decide (0 ≤ x.cap) = true := by simp; omega
    by_cases hr3 : x.cap ≤ 2
    case neg =>
      have hd0 : decide (x.cap ≤ 2) = false := by simp; omega
      have hb0 : inB x.cap 0 2 = false := by unfold inB; rw [hd0]; simp
      have hbad : restB x = false := by unfold restB; simp [hb0]
      go_wp2_with fail
      all_goals
        try rw [Exit.noGoto_ret]
        go_ret
        exact ⟨ret_bool (by rw [← HQ.out]; unfold mayS; simp [*]), B4⟩
    have hd3 : decide (x.cap ≤ 2) = true := by simp; omega
    by_cases hr4 : x.join = 0 ∨ x.join = 1
    case neg =>
      have hb0 : inB x.join 0 1 = false := by simp [inB]; omega
      have hj0 : (x.join == 0) = false := by simp; omega
      have hj1 : (x.join == 1) = false := by simp; omega
      have hbad : restB x = false := by unfold restB; simp [hb0]
      go_wp2_with fail
      all_goals
        try rw [Exit.noGoto_ret]
        go_ret
        exact ⟨ret_bool (by rw [← HQ.out]; unfold mayS; simp [*]), B4⟩
    by_cases hr5 : 0 ≤ x.ph
    case neg =>
      have hd0 : decide (0 ≤ x.ph) = false := by simp; omega
      have hb0 : inB x.ph 0 1073741823 = false := by unfold inB; rw [hd0]; rfl
      rcases hr4 with hr4 | hr4
      · have hbad : restB x = false := by unfold restB; simp [hb0]
        go_wp2_with fail
        all_goals
          try rw [Exit.noGoto_ret]
          go_ret
          exact ⟨ret_bool (by rw [← HQ.out]; unfold mayS; simp [*]), B4⟩
      · have hbad : restB x = false := by unfold restB; simp [hb0]
        go_wp2_with fail
        all_goals
          try rw [Exit.noGoto_ret]
          go_ret
          exact ⟨ret_bool (by rw [← HQ.out]; unfold mayS; simp [*]), B4⟩
    have hd5 : decide (0 ≤ x.ph) = true := by simp; omega
    by_cases hr6 : x.ph ≤ 1073741823
    case neg =>
      have hd0 : decide (x.ph ≤ 1073741823) = false := by simp; omega
      have hb0 : inB x.ph 0 1073741823 = false := by unfold inB; rw [hd0]; simp
      rcases hr4 with hr4 | hr4
      · have hbad : restB x = false := by unfold restB; simp [hb0]
        go_wp2_with fail
        all_goals
          try rw [Exit.noGoto_ret]
          go_ret
          exact ⟨ret_bool (by rw [← HQ.out]; unfold mayS; simp [*]), B4⟩
      · have hbad : restB x = false := by unfold restB; simp [hb0]
        go_wp2_with fail
        all_goals
          try rw [Exit.noGoto_ret]
          go_ret
          exact ⟨ret_bool (by rw [← HQ.out]; unfold mayS; simp [*]), B4⟩
    have hd6 : decide (x.ph ≤ 1073741823) = true := by simp; omega
    have hrest : restB x = fixB x.sz := by
      unfold restB
      have b1 : inB x.cap 0 2 = true := by simp [inB]; omega
      have b2 : inB x.join 0 1 = true := by simp [inB]; omega
      have b3 : inB x.ph 0 1073741823 = true := by simp [inB]; omega
      rw [HWI.out, b1, b2, b3]
      rfl
    have HREST := Lib.hid hrest
    clear hrest
    rcases hr4 with hr4 | hr4
    · go_wp2_with fail
      refine (rIsFix_any x.sz _).mono ?_; rintro e w' ⟨rfl, rfl⟩
      go_wp2_with fail
      go_ret
      refine ⟨ret_bool ?_, B4⟩
      rw [← HQ.out]; unfold mayS; rw [hm, hmp, hcl, hdb, hfo, HREST.out]; simp
    · go_wp2_with fail
      refine (rIsFix_any x.sz _).mono ?_; rintro e w' ⟨rfl, rfl⟩
      go_wp2_with fail
      go_ret
      refine ⟨ret_bool ?_, B4⟩
      rw [← HQ.out]; unfold mayS; rw [hm, hmp, hcl, hdb, hfo, HREST.out]; simp
end Go.Proofs.YtdfkbbcoolgfiaaGreat

namespace Go.Proofs.YtdfkbbcoolgfiaaGreat
open Go.RowKit Go.BigFrame

/-- With another path, unless that is none. -/
def withS (x : St) (E : List Sg × Int) : St × Int := if E.2 ≠ 0 then (zeroS, E.2) else ({ x with p := E.1 }, 0)
def bowS (x : St) (cu cv u v : Int) (d : Bool) : St × Int :=
  if (mayS x && [cu, cv, u, v].all fixB) = false then (zeroS, 1)
  else if (pointS x.m x.p cu cv d).2.2 ≠ 0 then (zeroS, (pointS x.m x.p cu cv d).2.2)
  else if (pointS x.m x.p u v d).2.2 ≠ 0 then (zeroS, (pointS x.m x.p u v d).2.2)
  else withS x (onL x.p ⟨3, (pointS x.m x.p u v d).1, (pointS x.m x.p u v d).2.1, (pointS x.m x.p cu cv d).1, (pointS x.m x.p cu cv d).2.1⟩)
def shutS (x : St) : St × Int := if mayS x = false then (zeroS, 1) else withS x (shutL x.p)
end Go.Proofs.YtdfkbbcoolgfiaaGreat

namespace Go.Proofs.YtdfkbbcoolgfiaaGreat
open Go.RowKit Go.BigFrame

end Go.Proofs.YtdfkbbcoolgfiaaGreat
