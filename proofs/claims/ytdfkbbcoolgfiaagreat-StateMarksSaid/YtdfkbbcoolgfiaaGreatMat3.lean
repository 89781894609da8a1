/- mat.Mul. -/
import Derived.Test.YtdfkbbcoolgfiaaGreatMMat
import Derived.Test.YtdfkbbcoolgfiaaGreatAllP
namespace Go.Proofs.YtdfkbbcoolgfiaaGreat
open Go.RowKit Go.BigFrame

def eqM (m n : Mt) : Bool := m.a == n.a && m.b == n.b && m.c == n.c && m.d == n.d && m.e == n.e && m.f == n.f
theorem eqM_iff {m n : Mt} : eqM m n = true ↔ m = n := by
  obtain ⟨a, b, c, d, e, f⟩ := m
  obtain ⟨a', b', c', d', e', f'⟩ := n
  simp [eqM, and_assoc]
set_option maxRecDepth 100000 in
theorem eql_mat (m n : Mt) (w : World) : (binOp .eql 23 (mtv m) (mtv n)).run Tryz.prog w = .ok (.bool (eqM m n)) w := by
  unfold eqM mtv
  simp [go_sem]
  by_cases h1 : m.a = n.a <;> by_cases h2 : m.b = n.b <;> by_cases h3 : m.c = n.c <;> by_cases h4 : m.d = n.d <;> by_cases h5 : m.e = n.e <;> by_cases h6 : m.f = n.f <;> simp [h1, h2, h3, h4, h5, h6, go_sem]
def prodM (m n : Mt) : Mt := ⟨rndM 65536 32768 (m.a * n.a + m.b * n.c), rndM 65536 32768 (m.a * n.b + m.b * n.d), rndM 65536 32768 (m.c * n.a + m.d * n.c), rndM 65536 32768 (m.c * n.b + m.d * n.d),
  rndM 65536 32768 (m.e * n.a + m.f * n.c) + n.e, rndM 65536 32768 (m.e * n.b + m.f * n.d) + n.f⟩
def mulM (m n : Mt) : Mt × Int := if eqM m oneM then (n, 0) else if eqM n oneM then (m, 0) else if mtB (prodM m n) then (prodM m n, 0) else (zeroM, 2)
theorem rnd16_add {a b c d e : Int} (ha : fixB a = true) (hb : fixB b = true) (hc : fixB c = true) (hd : fixB d = true) (he : fixB e = true) : wrap64 (rndM 65536 32768 (a * b + c * d) + e) = rndM 65536 32768 (a * b + c * d) + e := by
  have h1 := mul_fix ha hb
  have h2 := mul_fix hc hd
  have h3 := rndM_le (p := 65536) (h := 32768) (n := a * b + c * d) (by omega)
  rw [fixB_iff] at he
  clear ha hb hc hd
  generalize a * b = x at *
  generalize c * d = y at *
  exact IntWalk.wrap64_in _ (by omega)
set_option maxRecDepth 100000 in
set_option maxHeartbeats 8000000 in
theorem matMul_any (m n : Mt) (w : World) (hm : mtB m = true) (hn : mtB n = true) : Calls Tryz.prog 38 #[mtv m, mtv n] w fun e w' => e = .returned (.tuple #[mtv (mulM m n).1, .int .i64 (mulM m n).2]) ∧ Below w.heap.size w w' := by
  obtain ⟨w0, hw0⟩ : ∃ w0 : World, w0 = ((w.alloc (.cells #[.int .i64 m.a, .int .i64 m.b, .int .i64 m.c, .int .i64 m.d, .int .i64 m.e, .int .i64 m.f] 23)).alloc (.cells #[.int .i64 n.a, .int .i64 n.b, .int .i64 n.c, .int .i64 n.d, .int .i64 n.e, .int .i64 n.f] 23)).alloc (.cells #[.int .i64 0, .int .i64 0, .int .i64 0, .int .i64 0, .int .i64 0, .int .i64 0] 23) := ⟨_, rfl⟩
  have hB0 : Below w.heap.size w w0 := by rw [hw0]; exact bal (bal (bal (Below.refl _ _) _) _) _
  have hA : BC w0 w.heap.size (mtC m) := by rw [hw0]; exact ((BC.new (mtC m) 23 rfl).below (bal (Below.refl _ _) _)).below (bal (Below.refl _ _) _)
  have hN : BC w0 (w.heap.size + 1) (mtC n) := by rw [hw0]; exact (BC.new (w := w.alloc (.cells (mtC m).toArray 23)) (mtC n) 23 (by simp)).below (bal (Below.refl _ _) _)
  have hR : BC w0 (w.heap.size + 1 + 1) (mtC zeroM) := by rw [hw0]; exact BC.new (w := (w.alloc (.cells (mtC m).toArray 23)).alloc (.cells (mtC n).toArray 23)) (mtC zeroM) 23 (by simp)
  have HMm := Lib.hid fun W => matMay_any m W
  have HMn := Lib.hid fun W => matMay_any n W
  rw [hm] at HMm
  rw [hn] at HMn
  have HO := Lib.hid fun W => matOne_any W
  unfold mtv at HMm HMn HO ⊢
  unfold oneM at HO
  simp only at HO
  have H1 := Lib.hid hm
  have H2 := Lib.hid hn
  obtain ⟨R, hRR⟩ : ∃ R, mulM m n = R := ⟨_, rfl⟩
  rw [hRR]
  have HRR := Lib.hid hRR
  clear hm hn hRR
  have a0 := hA.c 0 _ rfl
  have a1 := hA.c 1 _ rfl
  have a2 := hA.c 2 _ rfl
  have a3 := hA.c 3 _ rfl
  have a4 := hA.c 4 _ rfl
  have a5 := hA.c 5 _ rfl
  go_enter Tryz.func38, Tryz.ntmps38
  go_wp2_with fail
  rw [← hw0]
  clear hw0 a0 a1 a2 a3 a4 a5
  refine (HMm.out _).mono ?_; rintro e w1 ⟨rfl, hb1⟩
  have B1 := btr hB0 hb1
  replace hA := hA.below hb1
  replace hN := hN.below hb1
  replace hR := hR.below hb1
  clear hb1 hB0
  have n0 := hN.c 0 _ rfl
  have n1 := hN.c 1 _ rfl
  have n2 := hN.c 2 _ rfl
  have n3 := hN.c 3 _ rfl
  have n4 := hN.c 4 _ rfl
  have n5 := hN.c 5 _ rfl
  go_wp2_with fail
  refine (HMn.out _).mono ?_; rintro e w2 ⟨rfl, hb2⟩
  have B2 := btr B1 hb2
  replace hA := hA.below hb2
  replace hN := hN.below hb2
  replace hR := hR.below hb2
  clear hb2 B1 n0 n1 n2 n3 n4 n5
  have a0 := fun q : Grown w2 => q.cell (hA.c 0 _ rfl) hA.lt
  have a1 := fun q : Grown w2 => q.cell (hA.c 1 _ rfl) hA.lt
  have a2 := fun q : Grown w2 => q.cell (hA.c 2 _ rfl) hA.lt
  have a3 := fun q : Grown w2 => q.cell (hA.c 3 _ rfl) hA.lt
  have a4 := fun q : Grown w2 => q.cell (hA.c 4 _ rfl) hA.lt
  have a5 := fun q : Grown w2 => q.cell (hA.c 5 _ rfl) hA.lt
  have hE := fun W => eql_mat m oneM W
  obtain ⟨q1, hq1⟩ : ∃ q, eqM m oneM = q := ⟨_, rfl⟩
  rw [hq1] at hE
  have Q1 := Lib.hid hq1
  clear hq1
  unfold mtv oneM at hE
  cases q1
  · go_wp2_with fail
    refine wp_region_grown (by kernel_rfl) (by kernel_rfl) ?_
    repeat (go_big_quiet_step (first
      | (go_at_call 83; with_reducible exact Calls.grown (HO.out _))
      | fail))
    refine wpQuiet_nil ?_
    rintro _ ⟨x, rfl⟩
    obtain ⟨w3, hb3⟩ := x
    simp only
    have B3 := btr B2 hb3
    replace hA := hA.below hb3
    replace hN := hN.below hb3
    replace hR := hR.below hb3
    clear hb3 B2 a0 a1 a2 a3 a4 a5 hE
    have n0 := fun q : Grown w3 => q.cell (hN.c 0 _ rfl) hN.lt
    have n1 := fun q : Grown w3 => q.cell (hN.c 1 _ rfl) hN.lt
    have n2 := fun q : Grown w3 => q.cell (hN.c 2 _ rfl) hN.lt
    have n3 := fun q : Grown w3 => q.cell (hN.c 3 _ rfl) hN.lt
    have n4 := fun q : Grown w3 => q.cell (hN.c 4 _ rfl) hN.lt
    have n5 := fun q : Grown w3 => q.cell (hN.c 5 _ rfl) hN.lt
    have hE := fun W => eql_mat n oneM W
    obtain ⟨q1, hq2⟩ : ∃ q, eqM n oneM = q := ⟨_, rfl⟩
    rw [hq2] at hE
    have Q2 := Lib.hid hq2
    clear hq2
    unfold mtv oneM at hE
    cases q1
    · go_wp2_with fail
      refine wp_region_grown (by kernel_rfl) (by kernel_rfl) ?_
      repeat (go_big_quiet_step (first
        | (go_at_call 83; with_reducible exact Calls.grown (HO.out _))
        | fail))
      refine wpQuiet_nil ?_
      rintro _ ⟨x, rfl⟩
      obtain ⟨w4, hb4⟩ := x
      simp only
      have B4 := btr B3 hb4
      replace hA := hA.below hb4
      replace hN := hN.below hb4
      replace hR := hR.below hb4
      clear hb4 B3 n0 n1 n2 n3 n4 n5 hE
      have a0 := hA.c 0 _ rfl
      have a1 := hA.c 1 _ rfl
      have a2 := hA.c 2 _ rfl
      have a3 := hA.c 3 _ rfl
      have a4 := hA.c 4 _ rfl
      have a5 := hA.c 5 _ rfl
      have n0 := hN.c 0 _ rfl
      have n1 := hN.c 1 _ rfl
      have n2 := hN.c 2 _ rfl
      have n3 := hN.c 3 _ rfl
      have n4 := hN.c 4 _ rfl
      have n5 := hN.c 5 _ rfl
      have F := mtB_fix H1.out
      have G := mtB_fix H2.out
      have e1 := rnd16_add F.2.2.2.2.1 G.1 F.2.2.2.2.2 G.2.2.1 G.2.2.2.2.1
      have e2 := rnd16_add F.2.2.2.2.1 G.2.1 F.2.2.2.2.2 G.2.2.2.1 G.2.2.2.2.2
      have HS := Lib.hid (fun W => And.intro (matSum_any m.a n.a m.b n.c W F.1 G.1 F.2.1 G.2.2.1) (And.intro (matSum_any m.a n.b m.b n.d W F.1 G.2.1 F.2.1 G.2.2.2.1) (And.intro (matSum_any m.c n.a m.d n.c W F.2.2.1 G.1 F.2.2.2.1 G.2.2.1) (And.intro (matSum_any m.c n.b m.d n.d W F.2.2.1 G.2.1 F.2.2.2.1 G.2.2.2.1)
        (And.intro (matSum_any m.e n.a m.f n.c W F.2.2.2.2.1 G.1 F.2.2.2.2.2 G.2.2.1) (matSum_any m.e n.b m.f n.d W F.2.2.2.2.1 G.2.1 F.2.2.2.2.2 G.2.2.2.1))))))
      clear F G
      have HH := Lib.hid fun W => matHeld_any (prodM m n) W
      obtain ⟨q5, hq5⟩ : ∃ q, mtB (prodM m n) = q := ⟨_, rfl⟩
      rw [hq5] at HH
      have Q5 := Lib.hid hq5
      clear hq5
      unfold mtv prodM zeroM at HH
      go_wp2_with fail
      try simp only [List.append_eq, List.cons_append, List.nil_append]
      refine wp_region_cut 66 (by kernel_rfl) rfl (by simp only [List.take_succ_cons, List.take_zero]; rfl) (by simp only [List.drop_succ_cons, List.drop_zero]; rfl) (by kernel_rfl) (by kernel_rfl) (by kernel_rfl) (by kernel_rfl) (by kernel_rfl) (by kernel_rfl) (fun _ _ h => nomatch h.1) (fun _ => rfl) ?_
      simp only [Act.put, Act.eval, Array.getD_eq_getD_getElem?, List.getElem?_toArray, List.getElem?_cons_succ, List.getElem?_cons_zero, Option.getD_some, List.setIfInBounds_toArray, List.set_cons_zero, List.set_cons_succ]
      repeat (go_big_quiet_step (first | (go_at_call 84; first | with_reducible exact quiet_left (HS.out _).1 | with_reducible exact quiet_left (HS.out _).2.1 | with_reducible exact quiet_left (HS.out _).2.2.1 | with_reducible exact quiet_left (HS.out _).2.2.2.1 | with_reducible exact quiet_left (HS.out _).2.2.2.2.1 | with_reducible exact quiet_left (HS.out _).2.2.2.2.2 | fail) | fail))
      refine wpQuiet_nil ?_
      intro _ hw'
      obtain ⟨nq, rfl⟩ := hw'
      go_wp2_with fail
      refine (HH.out _).mono ?_; rintro e w5 ⟨rfl, hb5⟩
      have B5 := btr (btr B4 (bdrewN (Below.refl _ _) _)) hb5
      replace hR := (hR.below (bdrewN (Below.refl _ _) _)).below hb5
      clear hb5 B4 HH HS hA hN
      cases q5
      · have HRR2 := Lib.hid (show R = (zeroM, 2) by rw [← HRR.out]; unfold mulM; rw [Q1.out, Q2.out, Q5.out]; rfl)
        have hP := hR.put6 (zeroM)
        have hPB := set6_below B5 (Nat.le_succ_of_le (Nat.le_succ _)) (zeroM)
        have f0 := hR.nf 0
        have f1 := hR.nf 1
        have f2 := hR.nf 2
        have f3 := hR.nf 3
        have f4 := hR.nf 4
        have f5 := hR.nf 5
        have r0 := hR.c 0 _ rfl
        have r1 := hR.c 1 _ rfl
        have r2 := hR.c 2 _ rfl
        have r3 := hR.c 3 _ rfl
        have r4 := hR.c 4 _ rfl
        have r5 := hR.c 5 _ rfl
        go_wp2_with fail
        try (refine NoPanic.normal ?_; go_wp2_with fail)
        obtain ⟨w9, hw9⟩ : ∃ w9 : World, w9 = set6 w5 (w.heap.size + 1 + 1) (zeroM) := ⟨_, rfl⟩
        rw [← hw9] at hP hPB
        clear r0 r1 r2 r3 r4 r5
        have p0 := hP.c 0 _ rfl
        have p1 := hP.c 1 _ rfl
        have p2 := hP.c 2 _ rfl
        have p3 := hP.c 3 _ rfl
        have p4 := hP.c 4 _ rfl
        have p5 := hP.c 5 _ rfl
        unfold set6 at hw9
        try simp only [prodM, zeroM] at hw9
        rw [← hw9]
        refine bodyPost_ret (v := .tuple #[mtv (zeroM), .int .i64 2]) (by simp [results, Tryz.results38, go_sem, p0, p1, p2, p3, p4, p5, mtv]) rfl ?_
        rw [HRR2.out]
        exact ⟨rfl, hPB⟩
      · have HRR2 := Lib.hid (show R = (prodM m n, 0) by rw [← HRR.out]; unfold mulM; rw [Q1.out, Q2.out, Q5.out]; rfl)
        have hP := hR.put6 (prodM m n)
        have hPB := set6_below B5 (Nat.le_succ_of_le (Nat.le_succ _)) (prodM m n)
        have f0 := hR.nf 0
        have f1 := hR.nf 1
        have f2 := hR.nf 2
        have f3 := hR.nf 3
        have f4 := hR.nf 4
        have f5 := hR.nf 5
        have r0 := hR.c 0 _ rfl
        have r1 := hR.c 1 _ rfl
        have r2 := hR.c 2 _ rfl
        have r3 := hR.c 3 _ rfl
        have r4 := hR.c 4 _ rfl
        have r5 := hR.c 5 _ rfl
        go_wp2_with fail
        try (refine NoPanic.normal ?_; go_wp2_with fail)
        obtain ⟨w9, hw9⟩ : ∃ w9 : World, w9 = set6 w5 (w.heap.size + 1 + 1) (prodM m n) := ⟨_, rfl⟩
        rw [← hw9] at hP hPB
        clear r0 r1 r2 r3 r4 r5
        have p0 := hP.c 0 _ rfl
        have p1 := hP.c 1 _ rfl
        have p2 := hP.c 2 _ rfl
        have p3 := hP.c 3 _ rfl
        have p4 := hP.c 4 _ rfl
        have p5 := hP.c 5 _ rfl
        unfold set6 at hw9
        try simp only [prodM, zeroM] at hw9
        rw [← hw9]
        refine bodyPost_ret (v := .tuple #[mtv (prodM m n), .int .i64 0]) (by simp [results, Tryz.results38, go_sem, p0, p1, p2, p3, p4, p5, mtv]) rfl ?_
        rw [HRR2.out]
        exact ⟨rfl, hPB⟩
    · have HRR2 := Lib.hid (show R = (m, 0) by rw [← HRR.out]; unfold mulM; rw [Q1.out, Q2.out]; rfl)
      go_wp2_with fail
      refine wp_region_grown (by kernel_rfl) (by kernel_rfl) ?_
      repeat (go_big_quiet_step (first
        | (go_at_call 83; with_reducible exact Calls.grown (HO.out _))
        | fail))
      refine wpQuiet_nil ?_
      rintro _ ⟨x, rfl⟩
      obtain ⟨w4, hb4⟩ := x
      simp only
      have B4 := btr B3 hb4
      replace hA := hA.below hb4
      replace hR := hR.below hb4
      clear hb4 B3 n0 n1 n2 n3 n4 n5 hE hN
      have a0 := hA.c 0 _ rfl
      have a1 := hA.c 1 _ rfl
      have a2 := hA.c 2 _ rfl
      have a3 := hA.c 3 _ rfl
      have a4 := hA.c 4 _ rfl
      have a5 := hA.c 5 _ rfl
      have hP := hR.put6 (m)
      have hPB := set6_below B4 (Nat.le_succ_of_le (Nat.le_succ _)) (m)
      have f0 := hR.nf 0
      have f1 := hR.nf 1
      have f2 := hR.nf 2
      have f3 := hR.nf 3
      have f4 := hR.nf 4
      have f5 := hR.nf 5
      have r0 := hR.c 0 _ rfl
      have r1 := hR.c 1 _ rfl
      have r2 := hR.c 2 _ rfl
      have r3 := hR.c 3 _ rfl
      have r4 := hR.c 4 _ rfl
      have r5 := hR.c 5 _ rfl
      go_wp2_with fail
      try (refine NoPanic.normal ?_; go_wp2_with fail)
      obtain ⟨w9, hw9⟩ : ∃ w9 : World, w9 = set6 w4 (w.heap.size + 1 + 1) (m) := ⟨_, rfl⟩
      rw [← hw9] at hP hPB
      clear r0 r1 r2 r3 r4 r5
      have p0 := hP.c 0 _ rfl
      have p1 := hP.c 1 _ rfl
      have p2 := hP.c 2 _ rfl
      have p3 := hP.c 3 _ rfl
      have p4 := hP.c 4 _ rfl
      have p5 := hP.c 5 _ rfl
      unfold set6 at hw9
      try simp only [prodM, zeroM] at hw9
      rw [← hw9]
      refine bodyPost_ret (v := .tuple #[mtv (m), .int .i64 0]) (by simp [results, Tryz.results38, go_sem, p0, p1, p2, p3, p4, p5, mtv]) rfl ?_
      rw [HRR2.out]
      exact ⟨rfl, hPB⟩
  · have HRR2 := Lib.hid (show R = (n, 0) by rw [← HRR.out]; unfold mulM; rw [Q1.out]; rfl)
    go_wp2_with fail
    refine wp_region_grown (by kernel_rfl) (by kernel_rfl) ?_
    repeat (go_big_quiet_step (first
      | (go_at_call 83; with_reducible exact Calls.grown (HO.out _))
      | fail))
    refine wpQuiet_nil ?_
    rintro _ ⟨x, rfl⟩
    obtain ⟨w3, hb3⟩ := x
    simp only
    have B3 := btr B2 hb3
    replace hN := hN.below hb3
    replace hR := hR.below hb3
    clear hb3 B2 a0 a1 a2 a3 a4 a5 hE hA
    have n0 := hN.c 0 _ rfl
    have n1 := hN.c 1 _ rfl
    have n2 := hN.c 2 _ rfl
    have n3 := hN.c 3 _ rfl
    have n4 := hN.c 4 _ rfl
    have n5 := hN.c 5 _ rfl
    have hP := hR.put6 (n)
    have hPB := set6_below B3 (Nat.le_succ_of_le (Nat.le_succ _)) (n)
    have f0 := hR.nf 0
    have f1 := hR.nf 1
    have f2 := hR.nf 2
    have f3 := hR.nf 3
    have f4 := hR.nf 4
    have f5 := hR.nf 5
    have r0 := hR.c 0 _ rfl
    have r1 := hR.c 1 _ rfl
    have r2 := hR.c 2 _ rfl
    have r3 := hR.c 3 _ rfl
    have r4 := hR.c 4 _ rfl
    have r5 := hR.c 5 _ rfl
    go_wp2_with fail
    try (refine NoPanic.normal ?_; go_wp2_with fail)
    obtain ⟨w9, hw9⟩ : ∃ w9 : World, w9 = set6 w3 (w.heap.size + 1 + 1) (n) := ⟨_, rfl⟩
    rw [← hw9] at hP hPB
    clear r0 r1 r2 r3 r4 r5
    have p0 := hP.c 0 _ rfl
    have p1 := hP.c 1 _ rfl
    have p2 := hP.c 2 _ rfl
    have p3 := hP.c 3 _ rfl
    have p4 := hP.c 4 _ rfl
    have p5 := hP.c 5 _ rfl
    unfold set6 at hw9
    try simp only [prodM, zeroM] at hw9
    rw [← hw9]
    refine bodyPost_ret (v := .tuple #[mtv (n), .int .i64 0]) (by simp [results, Tryz.results38, go_sem, p0, p1, p2, p3, p4, p5, mtv]) rfl ?_
    rw [HRR2.out]
    exact ⟨rfl, hPB⟩
end Go.Proofs.YtdfkbbcoolgfiaaGreat
