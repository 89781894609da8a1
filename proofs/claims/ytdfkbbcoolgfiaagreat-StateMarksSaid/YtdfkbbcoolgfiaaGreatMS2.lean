/- obj.bare, obj.May of a Dict. -/
import Derived.Test.YtdfkbbcoolgfiaaGreatMSt
import Derived.Test.YtdfkbbcoolgfiaaGreatAllP
namespace Go.Proofs.YtdfkbbcoolgfiaaGreat
open Go.RowKit Go.BigFrame

def emptyS : ByteArray := { data := #[] }
set_option maxRecDepth 100000 in
theorem eql_ob (o : Ob) (k n a l : Int) (b : Bool) (w : World) : (binOp .eql 30 (obv o) (.agg #[.int .i64 k, .bool b, .int .i64 n, .int .i64 a, .int .i64 l, .string { data := #[] }])).run Tryz.prog w = .ok (.bool (o.k == k && (o.ex == b) && o.n == n && o.at_ == a && o.ln == l && o.s.toList.isEmpty)) w := by
  unfold obv obC
  simp [go_sem]
  by_cases h1 : o.k = k <;> by_cases h2 : o.ex = b <;> by_cases h3 : o.n = n <;> by_cases h4 : o.at_ = a <;> by_cases h5 : o.ln = l <;> simp [h1, h2, h3, h4, h5, go_sem]
  cases o.s.toList <;> simp
set_option maxRecDepth 100000 in
theorem neq_ob (o : Ob) (k n a l : Int) (b : Bool) (w : World) : (binOp .neq 30 (obv o) (.agg #[.int .i64 k, .bool b, .int .i64 n, .int .i64 a, .int .i64 l, .string { data := #[] }])).run Tryz.prog w = .ok (.bool (!(o.k == k && (o.ex == b) && o.n == n && o.at_ == a && o.ln == l && o.s.toList.isEmpty))) w := by
  unfold obv obC
  simp [go_sem]
  by_cases h1 : o.k = k <;> by_cases h2 : o.ex = b <;> by_cases h3 : o.n = n <;> by_cases h4 : o.at_ = a <;> by_cases h5 : o.ln = l <;> simp [h1, h2, h3, h4, h5, go_sem]
  cases o.s.toList <;> simp
set_option maxRecDepth 100000 in
theorem bare_dict (o : Ob) (w : World) (hk : o.k = 10) : Calls Tryz.prog 114 #[obv o] w fun e w' => e = .returned (.agg #[.int .i64 10, .bool false, .int .i64 0, .int .i64 o.at_, .int .i64 o.ln, .string o.s]) ∧ Below w.heap.size w w' := by
  unfold obv obC
  rw [hk]
  go_enter Tryz.func114, Tryz.ntmps114
  go_wp2
  refine bodyPost_ret (v := .agg #[.int .i64 10, .bool false, .int .i64 0, .int .i64 o.at_, .int .i64 o.ln, .string o.s]) (by simp [results, Tryz.results114, go_sem]) rfl ?_
  refine ⟨rfl, ?_⟩
  repeat (first | exact bal (bal (Below.refl _ _) _) _ | refine bset ?_ (by simp) _)
theorem dict_eq (o : Ob) (v : Bool) (h : (o.at_ == 0 && o.ln == 0 && o.s.toList.isEmpty) = v) : dictB o = (v && inB o.n 0 40000) := by
  unfold dictB; rw [h]
set_option maxRecDepth 100000 in
set_option maxHeartbeats 1000000 in
theorem objMay_dict (o : Ob) (w : World) (hk : o.k = 10) : Calls Tryz.prog 59 #[obv o] w fun e w' => e = .returned (.bool (dictB o)) ∧ Below w.heap.size w w' := by
  obtain ⟨w0, hw0⟩ : ∃ w0 : World, w0 = w.alloc (.cells (obC o).toArray 30) := ⟨_, rfl⟩
  have hB0 : Below w.heap.size w w0 := by rw [hw0]; exact bal (Below.refl _ _) _
  have hA : BC w0 w.heap.size (obC o) := by rw [hw0]; exact BC.new (obC o) 30 rfl
  have HO := Lib.hid fun W => bare_dict o W hk
  have hE := fun W => neq_ob ⟨10, false, 0, o.at_, o.ln, o.s⟩ 10 0 0 0 false W
  obtain ⟨q, hq⟩ : ∃ q, (o.at_ == 0 && o.ln == 0 && o.s.toList.isEmpty) = q := ⟨_, rfl⟩
  have hE2 : ((10 : Int) == 10 && (false == false) && (0 : Int) == 0 && o.at_ == 0 && o.ln == 0 && o.s.toList.isEmpty) = q := by rw [← hq]; simp
  simp only at hE
  rw [hE2] at hE
  rw [dict_eq o q hq]
  clear hq hE2
  unfold obv obC at hE HO
  unfold obv obC
  unfold obC at hw0 hA
  rw [hk] at hw0 hA HO ⊢
  clear hk
  simp only at hE
  have a0 := fun x : Grown w0 => x.cell (hA.c 0 _ rfl) hA.lt
  have a1 := fun x : Grown w0 => x.cell (hA.c 1 _ rfl) hA.lt
  have a2 := fun x : Grown w0 => x.cell (hA.c 2 _ rfl) hA.lt
  have a3 := fun x : Grown w0 => x.cell (hA.c 3 _ rfl) hA.lt
  have a4 := fun x : Grown w0 => x.cell (hA.c 4 _ rfl) hA.lt
  have a5 := fun x : Grown w0 => x.cell (hA.c 5 _ rfl) hA.lt
  go_enter Tryz.func59, Tryz.ntmps59
  go_wp2_with fail
  rw [← hw0]
  clear hw0
  go_wp2_with fail
  refine wp_region_grown (by kernel_rfl) (by kernel_rfl) ?_
  repeat (go_big_quiet_step (first
    | (go_at_call 114; with_reducible exact Calls.grown (HO.out _))
    | fail))
  refine wpQuiet_nil ?_
  rintro _ ⟨x, rfl⟩
  obtain ⟨w1, hb1⟩ := x
  simp only
  have B1 := btr hB0 hb1
  have c0 := (hA.below hb1).c 0 _ rfl
  have c2 := (hA.below hb1).c 2 _ rfl
  clear a0 a1 a2 a3 a4 a5 hE HO hA hb1 hB0
  cases q
  · go_wp2_with fail
    go_ret
    exact ⟨ret_bool (by simp), B1⟩
  · go_wp2_with fail
    refine (objWithin_any _ _ _ _).mono ?_; rintro e w' ⟨rfl, rfl⟩
    go_wp2_with fail
    go_ret
    exact ⟨ret_bool (by simp), B1⟩
end Go.Proofs.YtdfkbbcoolgfiaaGreat

namespace Go.Proofs.YtdfkbbcoolgfiaaGreat
open Go.RowKit Go.BigFrame

theorem dash_pos (l : List Int) (k : Nat) (hk : k < l.length) (s z : Int) (hz : z = l[k]) (h0 : 0 ≤ s) (h : decide (0 < s) = (l.take k).any fun d => decide (0 < d)) (hz0 : 0 ≤ z) :
    0 ≤ (if s < z then z else s) ∧ decide (0 < if s < z then z else s) = (l.take (k + 1)).any fun d => decide (0 < d) := by
  subst hz
  rw [List.take_succ_eq_append_getElem hk, List.any_append, ← h]
  simp only [List.any_cons, List.any_nil, Bool.or_false]
  split
  · refine ⟨hz0, ?_⟩
    rw [decide_eq_true (show 0 < l[k] by omega)]; simp
  · refine ⟨h0, ?_⟩
    by_cases hs : 0 < s
    · simp [hs]
    · simp [hs]; omega
set_option maxRecDepth 100000 in
set_option maxHeartbeats 40000000 in
theorem stMay_any (x : St) (P C D : Value) (w : World) (h : StAt w x P C D) : Calls Tryz.prog 23 #[.agg (stC x P C D).toArray] w fun e w' => e = .returned (.bool (mayS x)) ∧ Below w.heap.size w w' := by
  obtain ⟨w0, hw0⟩ : ∃ w0 : World, w0 = w.alloc (.cells (stC x P C D).toArray 32) := ⟨_, rfl⟩
  have hB0 : Below w.heap.size w w0 := by rw [hw0]; exact bal (Below.refl _ _) _
  have hA : BC w0 w.heap.size (stC x P C D) := by rw [hw0]; exact BC.new (stC x P C D) 32 rfl
  have h0 := h.below hB0
  clear h
  obtain ⟨⟨Ap, cp, rfl, hp, hpc, hpm⟩, hcv, ⟨Ad, cd, rfl, hd, hdc, hdm⟩⟩ := h0
  obtain ⟨Ac, cc, rfl, hc, hcc, hcm⟩ := hcv.sl
  clear hcv
  obtain ⟨q, hq⟩ : ∃ q, mayS x = q := ⟨_, rfl⟩
  have HQ := Lib.hid hq
  rw [hq]
  clear hq
  have HMm := Lib.hid fun W => matMay_any x.m W
  unfold mtv at HMm
  unfold stC at hA hw0 ⊢
  obtain ⟨np, hnp⟩ : ∃ n, n = x.p.length := ⟨_, rfl⟩
  obtain ⟨nc, hnc⟩ : ∃ n, n = x.cl.length := ⟨_, rfl⟩
  obtain ⟨nd, hnd⟩ : ∃ n, n = x.da.length := ⟨_, rfl⟩
  rw [← hnp] at hA hw0 hp hpc ⊢
  rw [← hnc] at hA hw0 hcc ⊢
  rw [← hnd] at hA hw0 hd hdc ⊢
  have HNP := Lib.hid hnp
  have HNC := Lib.hid hnc
  have HND := Lib.hid hnd
  have HA := Lib.hid hA
  have HP := Lib.hid hp
  have HC := Lib.hid hc
  have HD := Lib.hid hd
  clear hnp hnc hnd hA hp hc hd
  go_enter Tryz.func23, Tryz.ntmps23
  go_wp2_with fail
  rw [← hw0]
  clear hw0
  refine (HMm.out _).mono ?_; rintro e w1 ⟨rfl, hb1⟩
  have B1 := btr hB0 hb1
  have A1 := HA.out.below hb1
  have a6 := A1.c 6 _ rfl
  have a7 := A1.c 7 _ rfl
  have P1 := HP.out.below hb1
  have G1 := hb1
  cases hm : mtB x.m
  · go_wp2_with fail
    try rw [Exit.noGoto_ret]
    go_ret
    exact ⟨ret_bool (by rw [← HQ.out]; unfold mayS; simp [*]), B1⟩
  · go_wp2_with fail
    refine (pathMay_wide Ap np cp x.p _ (by omega) P1).mono ?_; rintro e w2 ⟨rfl, hb2⟩
    have B2 := btr B1 hb2
    have G2 := btr G1 hb2
    have a7 := (HA.out.below G2).c 7 _ rfl
    clear P1 A1 hb1 hb2
    cases hmp : mayB x.p
    · go_wp2_with fail
      try rw [Exit.noGoto_ret]
      go_ret
      exact ⟨ret_bool (by rw [← HQ.out]; unfold mayS; simp [*]), B2⟩
    · by_cases hn : nc ≤ 10
      · have hB0' := hB0.size
        go_wp2_with fail
        go_loopw [27] (fun s27 wr => ∃ i : Nat, i ≤ nc ∧ s27 = .int .i64 (i : Int) ∧ Below w0.heap.size w0 wr ∧ Hid ((x.cl.take i).all clB = true)) (fun s27 _ => nc - (intOf s27).toNat)
        case atStart => exact ⟨0, Nat.zero_le _, rfl, G2, by simp [Hid]⟩
        case round =>
          obtain ⟨i, hi, rfl, G3, hcl⟩ := hrel
          by_cases hlt : i < nc
          · have hlc : i < x.cl.length := by rw [← HNC.out]; exact hlt
            obtain ⟨b, off, Ae, ce, rfl, hbl, c0, c1, hs, hce, hcm2⟩ := (HC.out.below G3).get i hlc
            obtain ⟨k, hk⟩ : ∃ k, x.cl[i] = k := ⟨_, rfl⟩
            rw [hk] at c0 c1 hs hce
            have HK := Lib.hid hk
            obtain ⟨ne, hne⟩ : ∃ n, n = k.p.length := ⟨_, rfl⟩
            rw [← hne] at c0 hs hce
            have HS := Lib.hid hs
            clear hk hne hs
            go_wp2_with fail
            refine (pathMay_wide Ae ne ce k.p _ (by omega) (HS.out.below (bal (Below.refl _ _) _))).mono ?_; rintro e w4 ⟨rfl, hb4⟩
            have r1 : w4.cell? ⟨wr.heap.size, 1, none⟩ = some (.int .i64 k.rule) := (later_cell hb4 (by simp)).trans (new_cell _ 1)
            have G4 := btr (bal G3 (.cells #[.slice Ae ne ce, .int .i64 k.rule] 65)) hb4
            have B4 := btr hB0 G4
            clear hb4
            cases hkp : mayB k.p
            · have hbad : clsB x.cl = false := by unfold clsB; rw [all_out clB x.cl i hlc (by rw [HK.out]; simp [clB, hkp])]; simp
              go_wp2_with fail
              try rw [Exit.noGoto_ret]
              go_ret
              exact ⟨ret_bool (by rw [← HQ.out]; unfold mayS; simp [*]), B4⟩
            · go_wp2_with fail
              refine (stIsRule_any k.rule _).mono ?_; rintro e w5 ⟨rfl, rfl⟩
              cases hkr : ruleB k.rule
              · have hbad : clsB x.cl = false := by unfold clsB; rw [all_out clB x.cl i hlc (by rw [HK.out]; simp [clB, hkr])]; simp
                go_wp2_with fail
                try rw [Exit.noGoto_ret]
                go_ret
                exact ⟨ret_bool (by rw [← HQ.out]; unfold mayS; simp [*]), B4⟩
              · go_wp2_with fail
                go_roundw
                case rel => exact ⟨i + 1, by omega, by go_num, G4, by show List.all _ _ = true; rw [all_take clB x.cl i hlc, hcl.out, HK.out]; simp [clB, hkp, hkr]⟩
                case measure => simp [intOf]; omega
          · have hok : clsB x.cl = true := by
              have := hcl.out
              rw [List.take_of_length_le (by rw [← HNC.out]; omega)] at this
              unfold clsB; rw [this, ← HNC.out]; simp [hn]
            have HOK := Lib.hid hok
            clear hok hcl
            have a15 := (HA.out.below G3).c 15 _ rfl
            go_wp2_with fail
            go_loopw [45, 5] (fun s45 s5 wr2 => ∃ (i : Nat) (s : Int), i ≤ nd ∧ s45 = .int .i64 (i : Int) ∧ s5 = .int .i64 s ∧ wr2 = wr ∧ 0 ≤ s ∧ Hid ((x.da.take i).all (fun d => inB d 0 1073741823) = true) ∧ Hid (decide (0 < s) = (x.da.take i).any fun d => decide (0 < d))) (fun s45 _ _ => nd - (intOf s45).toNat)
            case atStart => exact ⟨0, 0, Nat.zero_le _, rfl, rfl, rfl, by omega, by simp [Hid], by simp [Hid]⟩
            case round =>
              obtain ⟨i, s, hi, rfl, rfl, rfl, hs0, hda, hdp⟩ := hrel
              by_cases hlt : i < nd
              · have hld : i < x.da.length := by rw [← HND.out]; exact hlt
                obtain ⟨b, off, rfl, hbl, hcd⟩ := (HD.out.below G3).2 (by omega)
                obtain ⟨z, hz⟩ : ∃ z, z = x.da[i] := ⟨_, rfl⟩
                have hx : wr.cell? ⟨b, off + i, none⟩ = some (.int .i64 z) := hcd i _ (by simp [ints, hz, List.getElem?_eq_getElem hld])
                have HZ := Lib.hid hz
                clear hz hcd
                have B5 := btr hB0 G3
                go_wp2_with fail
                refine (stWithin_any z _ _ _).mono ?_; rintro e w' ⟨rfl, rfl⟩
                cases hzi : inB z 0 1073741823
                · have hbad : dashB x.da = false := by unfold dashB; rw [all_out (fun d => inB d 0 1073741823) x.da i hld (by rw [← HZ.out]; exact hzi)]; simp
                  go_wp2_with fail
                  try rw [Exit.noGoto_ret]
                  go_ret
                  exact ⟨ret_bool (by rw [← HQ.out]; unfold mayS; simp [*]), B5⟩
                · have hz0 : 0 ≤ z := by simp [inB] at hzi; omega
                  obtain ⟨m1, m2⟩ := dash_pos x.da i hld s z HZ.out hs0 hdp.out hz0
                  have M2 := Lib.hid m2
                  clear m2
                  go_wp2_with fail
                  go_roundw
                  case rel => exact ⟨i + 1, _, by omega, by go_num, rfl, by trivial, m1, by show List.all _ _ = true; rw [all_take _ x.da i hld, hda.out, ← HZ.out, hzi, Bool.and_self], M2⟩
                  case measure => simp [intOf]; omega
              · have hok2 : (x.da.all fun d => inB d 0 1073741823) = true := by
                  have := hda.out
                  rwa [List.take_of_length_le (by rw [← HND.out]; omega)] at this
                have hany : decide (0 < s) = x.da.any fun d => decide (0 < d) := by
                  have := hdp.out
                  rwa [List.take_of_length_le (by rw [← HND.out]; omega)] at this
                have HALL := Lib.hid hok2
                have HANY := Lib.hid hany
                clear hok2 hany hda hdp
                have B5 := btr hB0 G3
                have AR := HA.out.below G3
                by_cases h11 : nd ≤ 11
                · have h11' : x.da.length ≤ 11 := by rw [← HND.out]; exact h11
                  by_cases hn0 : nd = 0
                  · have HDB := Lib.hid (show dashB x.da = true by
                      have : x.da = [] := List.eq_nil_of_length_eq_zero (by rw [← HND.out]; exact hn0)
                      rw [this]; rfl)
                    subst hn0
                    have f0 := AR.c 17 _ rfl
                    have f1 := AR.c 18 _ rfl
                    have f2 := AR.c 19 _ rfl
                    have f3 := AR.c 20 _ rfl
                    have f4 := AR.c 21 _ rfl
                    have f5 := AR.c 22 _ rfl
                    have hne := fun W => neq_ob x.f 0 0 0 0 false W
                    obtain ⟨qz, hqz⟩ : ∃ q, obZ x.f = q := ⟨_, rfl⟩
                    have hz2 : (x.f.k == 0 && (x.f.ex == false) && x.f.n == 0 && x.f.at_ == 0 && x.f.ln == 0 && x.f.s.toList.isEmpty) = qz := by rw [← hqz]; unfold obZ; cases x.f.ex <;> rfl
                    rw [hz2] at hne
                    unfold obv obC at hne
                    have HQZ := Lib.hid hqz
                    clear hz2 hqz
                    cases qz
                    · by_cases hk : x.f.k = 10
                      · have HKK := Lib.hid hk
                        have HMd := Lib.hid fun W => objMay_dict x.f W hk
                        unfold obv obC at HMd
                        rw [hk] at HMd f0 hne
                        clear hk
                        go_wp2_with fail
                        refine (HMd.out _).mono ?_; rintro e w7 ⟨rfl, hb7⟩
                        have B7 := btr B5 hb7
                        have A7 := AR.below hb7
                        clear f0 f1 f2 f3 f4 f5 hne hb7
                        cases hdk : dictB x.f
                        · have hbad : fontB x.f = false := by unfold fontB; rw [HQZ.out, hdk]; simp
                          go_wp2_with fail
                          try rw [Exit.noGoto_ret]
                          go_ret
                          exact ⟨ret_bool (by rw [← HQ.out]; unfold mayS; simp [*]), B7⟩
                        · have hfo : fontB x.f = true := by unfold fontB; rw [hdk, HKK.out]; simp
                          have w12 := (A7).c 12 _ rfl
                          have w13 := (A7).c 13 _ rfl
                          have w14 := (A7).c 14 _ rfl
                          have w16 := (A7).c 16 _ rfl
                          have w23 := (A7).c 23 _ rfl
                          go_wp2_with fail
                          refine (stWithin_any x.wide _ _ _).mono ?_; rintro e w' ⟨rfl, rfl⟩
                          cases hr1 : inB x.wide 0 1073741823
                          · have hbad : restB x = false := by unfold restB; rw [hr1]; simp
                            go_wp2_with fail
                            try rw [Exit.noGoto_ret]
                            go_ret
                            exact ⟨ret_bool (by rw [← HQ.out]; unfold mayS; simp [*]), B7⟩
                          · go_wp2_with fail
                            refine (stWithin_any x.cap _ _ _).mono ?_; rintro e w' ⟨rfl, rfl⟩
                            cases hr2 : inB x.cap 0 2
                            · have hbad : restB x = false := by unfold restB; rw [hr2]; simp
                              go_wp2_with fail
                              try rw [Exit.noGoto_ret]
                              go_ret
                              exact ⟨ret_bool (by rw [← HQ.out]; unfold mayS; simp [*]), B7⟩
                            · go_wp2_with fail
                              refine (stWithin_any x.join _ _ _).mono ?_; rintro e w' ⟨rfl, rfl⟩
                              cases hr3 : inB x.join 0 1
                              · have hbad : restB x = false := by unfold restB; rw [hr3]; simp
                                go_wp2_with fail
                                try rw [Exit.noGoto_ret]
                                go_ret
                                exact ⟨ret_bool (by rw [← HQ.out]; unfold mayS; simp [*]), B7⟩
                              · go_wp2_with fail
                                refine (stWithin_any x.ph _ _ _).mono ?_; rintro e w' ⟨rfl, rfl⟩
                                cases hr4 : inB x.ph 0 1073741823
                                · have hbad : restB x = false := by unfold restB; rw [hr4]; simp
                                  go_wp2_with fail
                                  try rw [Exit.noGoto_ret]
                                  go_ret
                                  exact ⟨ret_bool (by rw [← HQ.out]; unfold mayS; simp [*]), B7⟩
                                · go_wp2_with fail
                                  refine (stmay_any _ 1 _ [x.sz] _ (by omega) (sl_new (w := w7) (t := 3) (ints [x.sz]) rfl rfl)).mono ?_; rintro e w' ⟨rfl, rfl⟩
                                  go_wp2_with fail
                                  try rw [Exit.noGoto_ret]
                                  go_ret
                                  refine ⟨ret_bool ?_, bal B7 _⟩
                                  rw [← HQ.out]
                                  unfold mayS restB
                                  rw [hm, hmp, HOK.out, HDB.out, hfo, hr1, hr2, hr3, hr4]
                                  simp
                      · have hbad : fontB x.f = false := by unfold fontB; rw [HQZ.out]; simp [hk]
                        go_wp2_with fail
                        try rw [Exit.noGoto_ret]
                        go_ret
                        exact ⟨ret_bool (by rw [← HQ.out]; unfold mayS; simp [*]), B5⟩
                    · have hfo : fontB x.f = true := by unfold fontB; rw [HQZ.out]; rfl
                      have w12 := (AR).c 12 _ rfl
                      have w13 := (AR).c 13 _ rfl
                      have w14 := (AR).c 14 _ rfl
                      have w16 := (AR).c 16 _ rfl
                      have w23 := (AR).c 23 _ rfl
                      go_wp2_with fail
                      refine (stWithin_any x.wide _ _ _).mono ?_; rintro e w' ⟨rfl, rfl⟩
                      cases hr1 : inB x.wide 0 1073741823
                      · have hbad : restB x = false := by unfold restB; rw [hr1]; simp
                        go_wp2_with fail
                        try rw [Exit.noGoto_ret]
                        go_ret
                        exact ⟨ret_bool (by rw [← HQ.out]; unfold mayS; simp [*]), B5⟩
                      · go_wp2_with fail
                        refine (stWithin_any x.cap _ _ _).mono ?_; rintro e w' ⟨rfl, rfl⟩
                        cases hr2 : inB x.cap 0 2
                        · have hbad : restB x = false := by unfold restB; rw [hr2]; simp
                          go_wp2_with fail
                          try rw [Exit.noGoto_ret]
                          go_ret
                          exact ⟨ret_bool (by rw [← HQ.out]; unfold mayS; simp [*]), B5⟩
                        · go_wp2_with fail
                          refine (stWithin_any x.join _ _ _).mono ?_; rintro e w' ⟨rfl, rfl⟩
                          cases hr3 : inB x.join 0 1
                          · have hbad : restB x = false := by unfold restB; rw [hr3]; simp
                            go_wp2_with fail
                            try rw [Exit.noGoto_ret]
                            go_ret
                            exact ⟨ret_bool (by rw [← HQ.out]; unfold mayS; simp [*]), B5⟩
                          · go_wp2_with fail
                            refine (stWithin_any x.ph _ _ _).mono ?_; rintro e w' ⟨rfl, rfl⟩
                            cases hr4 : inB x.ph 0 1073741823
                            · have hbad : restB x = false := by unfold restB; rw [hr4]; simp
                              go_wp2_with fail
                              try rw [Exit.noGoto_ret]
                              go_ret
                              exact ⟨ret_bool (by rw [← HQ.out]; unfold mayS; simp [*]), B5⟩
                            · go_wp2_with fail
                              refine (stmay_any _ 1 _ [x.sz] _ (by omega) (sl_new (w := wr) (t := 3) (ints [x.sz]) rfl rfl)).mono ?_; rintro e w' ⟨rfl, rfl⟩
                              go_wp2_with fail
                              try rw [Exit.noGoto_ret]
                              go_ret
                              refine ⟨ret_bool ?_, bal B5 _⟩
                              rw [← HQ.out]
                              unfold mayS restB
                              rw [hm, hmp, HOK.out, HDB.out, hfo, hr1, hr2, hr3, hr4]
                              simp
                  · by_cases hs1 : s = 0
                    · have hbad : dashB x.da = false := by
                        have h1 : (x.da.any fun d => decide (0 < d)) = false := by rw [← HANY.out]; simp; omega
                        have h2 : x.da.isEmpty = false := by
                          cases hxd : x.da with
                          | nil => rw [hxd] at h11'; exact absurd (by rw [HND.out, hxd]; rfl) hn0
                          | cons => rfl
                        unfold dashB; rw [h1, h2]; simp
                      subst hs1
                      have h1 : (1 : Int) ≤ nd := by omega
                      go_wp2_with fail
                      try rw [Exit.noGoto_ret]
                      go_ret
                      exact ⟨ret_bool (by rw [← HQ.out]; unfold mayS; simp [*]), B5⟩
                    · have HDB := Lib.hid (show dashB x.da = true by
                        have h1 : (x.da.any fun d => decide (0 < d)) = true := by rw [← HANY.out]; simp; omega
                        unfold dashB; rw [h1, HALL.out]; simp [h11'])
                      have f0 := AR.c 17 _ rfl
                      have f1 := AR.c 18 _ rfl
                      have f2 := AR.c 19 _ rfl
                      have f3 := AR.c 20 _ rfl
                      have f4 := AR.c 21 _ rfl
                      have f5 := AR.c 22 _ rfl
                      have hne := fun W => neq_ob x.f 0 0 0 0 false W
                      obtain ⟨qz, hqz⟩ : ∃ q, obZ x.f = q := ⟨_, rfl⟩
                      have hz2 : (x.f.k == 0 && (x.f.ex == false) && x.f.n == 0 && x.f.at_ == 0 && x.f.ln == 0 && x.f.s.toList.isEmpty) = qz := by rw [← hqz]; unfold obZ; cases x.f.ex <;> rfl
                      rw [hz2] at hne
                      unfold obv obC at hne
                      have HQZ := Lib.hid hqz
                      clear hz2 hqz
                      cases qz
                      · by_cases hk : x.f.k = 10
                        · have HKK := Lib.hid hk
                          have HMd := Lib.hid fun W => objMay_dict x.f W hk
                          unfold obv obC at HMd
                          rw [hk] at HMd f0 hne
                          clear hk
                          go_wp2_with fail
                          refine (HMd.out _).mono ?_; rintro e w7 ⟨rfl, hb7⟩
                          have B7 := btr B5 hb7
                          have A7 := AR.below hb7
                          clear f0 f1 f2 f3 f4 f5 hne hb7
                          cases hdk : dictB x.f
                          · have hbad : fontB x.f = false := by unfold fontB; rw [HQZ.out, hdk]; simp
                            go_wp2_with fail
                            try rw [Exit.noGoto_ret]
                            go_ret
                            exact ⟨ret_bool (by rw [← HQ.out]; unfold mayS; simp [*]), B7⟩
                          · have hfo : fontB x.f = true := by unfold fontB; rw [hdk, HKK.out]; simp
                            have w12 := (A7).c 12 _ rfl
                            have w13 := (A7).c 13 _ rfl
                            have w14 := (A7).c 14 _ rfl
                            have w16 := (A7).c 16 _ rfl
                            have w23 := (A7).c 23 _ rfl
                            go_wp2_with fail
                            refine (stWithin_any x.wide _ _ _).mono ?_; rintro e w' ⟨rfl, rfl⟩
                            cases hr1 : inB x.wide 0 1073741823
                            · have hbad : restB x = false := by unfold restB; rw [hr1]; simp
                              go_wp2_with fail
                              try rw [Exit.noGoto_ret]
                              go_ret
                              exact ⟨ret_bool (by rw [← HQ.out]; unfold mayS; simp [*]), B7⟩
                            · go_wp2_with fail
                              refine (stWithin_any x.cap _ _ _).mono ?_; rintro e w' ⟨rfl, rfl⟩
                              cases hr2 : inB x.cap 0 2
                              · have hbad : restB x = false := by unfold restB; rw [hr2]; simp
                                go_wp2_with fail
                                try rw [Exit.noGoto_ret]
                                go_ret
                                exact ⟨ret_bool (by rw [← HQ.out]; unfold mayS; simp [*]), B7⟩
                              · go_wp2_with fail
                                refine (stWithin_any x.join _ _ _).mono ?_; rintro e w' ⟨rfl, rfl⟩
                                cases hr3 : inB x.join 0 1
                                · have hbad : restB x = false := by unfold restB; rw [hr3]; simp
                                  go_wp2_with fail
                                  try rw [Exit.noGoto_ret]
                                  go_ret
                                  exact ⟨ret_bool (by rw [← HQ.out]; unfold mayS; simp [*]), B7⟩
                                · go_wp2_with fail
                                  refine (stWithin_any x.ph _ _ _).mono ?_; rintro e w' ⟨rfl, rfl⟩
                                  cases hr4 : inB x.ph 0 1073741823
                                  · have hbad : restB x = false := by unfold restB; rw [hr4]; simp
                                    go_wp2_with fail
                                    try rw [Exit.noGoto_ret]
                                    go_ret
                                    exact ⟨ret_bool (by rw [← HQ.out]; unfold mayS; simp [*]), B7⟩
                                  · go_wp2_with fail
                                    refine (stmay_any _ 1 _ [x.sz] _ (by omega) (sl_new (w := w7) (t := 3) (ints [x.sz]) rfl rfl)).mono ?_; rintro e w' ⟨rfl, rfl⟩
                                    go_wp2_with fail
                                    try rw [Exit.noGoto_ret]
                                    go_ret
                                    refine ⟨ret_bool ?_, bal B7 _⟩
                                    rw [← HQ.out]
                                    unfold mayS restB
                                    rw [hm, hmp, HOK.out, HDB.out, hfo, hr1, hr2, hr3, hr4]
                                    simp
                        · have hbad : fontB x.f = false := by unfold fontB; rw [HQZ.out]; simp [hk]
                          go_wp2_with fail
                          try rw [Exit.noGoto_ret]
                          go_ret
                          exact ⟨ret_bool (by rw [← HQ.out]; unfold mayS; simp [*]), B5⟩
                      · have hfo : fontB x.f = true := by unfold fontB; rw [HQZ.out]; rfl
                        have w12 := (AR).c 12 _ rfl
                        have w13 := (AR).c 13 _ rfl
                        have w14 := (AR).c 14 _ rfl
                        have w16 := (AR).c 16 _ rfl
                        have w23 := (AR).c 23 _ rfl
                        go_wp2_with fail
                        refine (stWithin_any x.wide _ _ _).mono ?_; rintro e w' ⟨rfl, rfl⟩
                        cases hr1 : inB x.wide 0 1073741823
                        · have hbad : restB x = false := by unfold restB; rw [hr1]; simp
                          go_wp2_with fail
                          try rw [Exit.noGoto_ret]
                          go_ret
                          exact ⟨ret_bool (by rw [← HQ.out]; unfold mayS; simp [*]), B5⟩
                        · go_wp2_with fail
                          refine (stWithin_any x.cap _ _ _).mono ?_; rintro e w' ⟨rfl, rfl⟩
                          cases hr2 : inB x.cap 0 2
                          · have hbad : restB x = false := by unfold restB; rw [hr2]; simp
                            go_wp2_with fail
                            try rw [Exit.noGoto_ret]
                            go_ret
                            exact ⟨ret_bool (by rw [← HQ.out]; unfold mayS; simp [*]), B5⟩
                          · go_wp2_with fail
                            refine (stWithin_any x.join _ _ _).mono ?_; rintro e w' ⟨rfl, rfl⟩
                            cases hr3 : inB x.join 0 1
                            · have hbad : restB x = false := by unfold restB; rw [hr3]; simp
                              go_wp2_with fail
                              try rw [Exit.noGoto_ret]
                              go_ret
                              exact ⟨ret_bool (by rw [← HQ.out]; unfold mayS; simp [*]), B5⟩
                            · go_wp2_with fail
                              refine (stWithin_any x.ph _ _ _).mono ?_; rintro e w' ⟨rfl, rfl⟩
                              cases hr4 : inB x.ph 0 1073741823
                              · have hbad : restB x = false := by unfold restB; rw [hr4]; simp
                                go_wp2_with fail
                                try rw [Exit.noGoto_ret]
                                go_ret
                                exact ⟨ret_bool (by rw [← HQ.out]; unfold mayS; simp [*]), B5⟩
                              · go_wp2_with fail
                                refine (stmay_any _ 1 _ [x.sz] _ (by omega) (sl_new (w := wr) (t := 3) (ints [x.sz]) rfl rfl)).mono ?_; rintro e w' ⟨rfl, rfl⟩
                                go_wp2_with fail
                                try rw [Exit.noGoto_ret]
                                go_ret
                                refine ⟨ret_bool ?_, bal B5 _⟩
                                rw [← HQ.out]
                                unfold mayS restB
                                rw [hm, hmp, HOK.out, HDB.out, hfo, hr1, hr2, hr3, hr4]
                                simp
                · have hbad : dashB x.da = false := by unfold dashB; rw [← HND.out]; simp [h11]
                  go_wp2_with fail
                  try rw [Exit.noGoto_ret]
                  go_ret
                  exact ⟨ret_bool (by rw [← HQ.out]; unfold mayS; simp [*]), B5⟩
      · have hbad : clsB x.cl = false := by unfold clsB; rw [← HNC.out]; simp [hn]
        go_wp2_with fail
        try rw [Exit.noGoto_ret]
        go_ret
        exact ⟨ret_bool (by rw [← HQ.out]; unfold mayS; simp [*]), B2⟩
end Go.Proofs.YtdfkbbcoolgfiaaGreat
