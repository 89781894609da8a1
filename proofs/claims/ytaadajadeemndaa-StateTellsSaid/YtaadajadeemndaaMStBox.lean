/- state.Box, and the reference's. -/
import Derived.Test.YtaadajadeemndaaMBoxP
import Derived.Test.YtaadajadeemndaaMRect
import Derived.Test.YtaadajadeemndaaMBox
import Derived.Test.YtaadajadeemndaaMWide
import Derived.Test.YtaadajadeemndaaMBack
import Derived.Test.YtaadajadeemndaaRefBox
import Derived.Test.YtaadajadeemndaaLaw
import Derived.ChangeKeysEq
namespace Go.Proofs.Ytaadajadeemndaa
open Go.RowKit Go.BigFrame

def bxc (b : Bx) : List Value := [.int .i64 b.x0, .int .i64 b.y0, .int .i64 b.x1, .int .i64 b.y1]
theorem arr4T : RecT Try.prog 69 4 := ⟨_, Try.underlying69, rfl, by kernel_rfl⟩
theorem bxc_one (b : Bx) : ∀ v ∈ bxc b, v.oneCell' = true := by
  intro v hv
  simp only [bxc, List.mem_cons, List.not_mem_nil, or_false] at hv
  rcases hv with rfl | rfl | rfl | rfl <;> rfl
def bx0 : Bx := ⟨0, 0, 0, 0⟩
def boxG (m : Mt) (b : Bx) (k : Nat) : Int × Int × Int := backM m (cornX b k) (cornY b k)
/-- The box of a state. -/
def boxS (x : St) : Bx × Int :=
  if mayS x = false then (bx0, 1) else if (boxL x.p).2 = false then (bx0, 13)
  else if firstE (fun k => (boxG x.m (boxL x.p).1 k).2.2) ≠ 0 then (bx0, firstE (fun k => (boxG x.m (boxL x.p).1 k).2.2)) else (bxAcc (boxG x.m (boxL x.p).1) 3, 0)
theorem nearP_bd2 (x y : Int) : -1073741823 ≤ (nearP x y 1073741823).1 ∧ (nearP x y 1073741823).1 ≤ 1073741823 ∧ -1073741823 ≤ (nearP x y 1073741823).2.1 ∧ (nearP x y 1073741823).2.1 ≤ 1073741823 := nearP_bd _ _ _ (by omega)
theorem backM_bd (m : Mt) (px py : Int) : -1073741823 ≤ (backM m px py).1 ∧ (backM m px py).1 ≤ 1073741823 ∧ -1073741823 ≤ (backM m px py).2.1 ∧ (backM m px py).2.1 ≤ 1073741823 := by
  unfold backM
  split
  · refine ⟨?_, ?_, ?_, ?_⟩ <;> simp only <;> omega
  · split
    · refine ⟨?_, ?_, ?_, ?_⟩ <;> simp only <;> omega
    · split
      · refine ⟨?_, ?_, ?_, ?_⟩ <;> simp only <;> omega
      · split
        · exact nearP_bd2 _ _
        · refine ⟨?_, ?_, ?_, ?_⟩ <;> simp only <;> omega
set_option maxRecDepth 100000 in
set_option maxHeartbeats 8000000 in
theorem stBox_any (x : St) (P C D : Value) (Y : Bx × Int) (w : World) (h : StAt w x P C D) (hY : boxS x = Y) : Calls Try.prog 33 #[.agg (stC x P C D).toArray] w
    fun r w' => r = .returned (.tuple #[.agg (bxc Y.1).toArray, .int .i64 Y.2]) ∧ Below w.heap.size w w' := by
  obtain ⟨w0, hw0⟩ : ∃ w0 : World, w0 = (w.alloc (.cells (stC x P C D).toArray 34)).alloc (.cells (bxc bx0).toArray 69) := ⟨_, rfl⟩
  have hB0 : Below w.heap.size w w0 := by rw [hw0]; exact bal (bal (Below.refl _ _) _) _
  have hA : BC w0 w.heap.size (stC x P C D) := by rw [hw0]; exact (BC.new (stC x P C D) 34 rfl).below (bal (Below.refl _ _) _)
  have hR : BC w0 (w.heap.size + 1) (bxc bx0) := by rw [hw0]; exact BC.new (w := w.alloc (.cells (stC x P C D).toArray 34)) _ 69 (by simp)
  have hgA := hA.lt
  have hgR := hR.lt
  have h0 := h.below hB0
  unfold bxc bx0 at hw0
  simp only at hw0
  obtain ⟨Ap, cp, rfl, hp, hpc, hpm⟩ := h0.p
  obtain ⟨np, hnp⟩ : ∃ n, n = x.p.length := ⟨_, rfl⟩
  rw [← hnp] at hw0 hA hp hpc h h0 ⊢
  have HY := Lib.hid hY
  have HM := Lib.hid fun W (hb : Below w0.heap.size w0 W) => stMay_any x (.slice Ap np cp) C D W (h0.below hb)
  have HP := Lib.hid hp
  have HA := Lib.hid hA
  have HR := Lib.hid hR
  have HNP := Lib.hid hnp
  clear hY h0 h hp hA hR hnp
  go_enter Try.func33, Try.ntmps33
  go_upto_region 1 with (fail)
  rw [← hw0]
  clear hw0
  go_wp2_with (first
    | (refine wpList_load_rec rfl _ _ rfl w.heap.size rfl _ 24 stT HA.out rfl ?_)
    | fail)
  refine (HM.out _ (Below.refl _ _)).mono ?_; rintro e w1 ⟨rfl, hb1⟩
  have G1 := hb1
  have B1 := btr hB0 G1
  clear hb1
  cases hm : mayS x
  · have HY2 : Hid (Y = (bx0, 1)) := Lib.hid (by rw [← HY.out]; unfold boxS; rw [hm]; simp)
    have hF := (HR.out.below G1).putAll (bxc bx0) rfl
    have hFB := below_setCells (Nat.le_succ w.heap.size) (bxc bx0) 0 _ (B1)
    go_wp2_with (first
      | (refine wpList_load_rec rfl _ _ rfl (w.heap.size + 1) rfl _ 4 arr4T (HR.out.below G1) rfl ?_)
      | (refine wpList_store_rec rfl _ _ _ rfl (w.heap.size + 1) (bxc bx0) _ rfl rfl 4 arr4T (HR.out.below G1) rfl rfl (bxc_one _) ?_)
      | fail)
    try rw [Exit.noGoto_ret]
    refine bodyPost_ret (result_rec rfl rfl rfl arr4T hF rfl) rfl ?_
    rw [HY2.out]
    exact ⟨rfl, hFB⟩
  · have hfew := mayS_few hm
    have hnp3 : np ≤ 1000 := by rw [HNP.out]; exact hfew.1
    obtain ⟨⟨b, ok⟩, hbx⟩ : ∃ E, boxL x.p = E := ⟨_, rfl⟩
    have HBx := Lib.hid fun W (hb : Below w0.heap.size w0 W) => Box_any Ap np cp x.p (b, ok) W (by omega) (HP.out.below hb) hbx
    simp only at HBx
    have HY5 : Hid (Y = if ok = false then (bx0, 13) else if firstE (fun k => (boxG x.m b k).2.2) ≠ 0 then (bx0, firstE (fun k => (boxG x.m b k).2.2)) else (bxAcc (boxG x.m b) 3, 0)) := Lib.hid (by rw [← HY.out]; unfold boxS; rw [hm, hbx]; simp)
    have c6 := (HA.out.below G1).c 6 _ rfl
    clear hfew hbx hm HY
    go_wp2_with fail
    refine (HBx.out _ G1).mono ?_; rintro e w2 ⟨rfl, hb2⟩
    have G2 := btr G1 hb2
    have B2 := btr B1 hb2
    clear c6 HBx hb2
    cases ok
    · have HY2 : Hid (Y = (bx0, 13)) := Lib.hid (by rw [HY5.out]; simp)
      have hF := (HR.out.below G2).putAll (bxc bx0) rfl
      have hFB := below_setCells (Nat.le_succ w.heap.size) (bxc bx0) 0 _ (B2)
      go_wp2_with (first
        | (refine wpList_load_rec rfl _ _ rfl (w.heap.size + 1) rfl _ 4 arr4T (HR.out.below G2) rfl ?_)
        | (refine wpList_store_rec rfl _ _ _ rfl (w.heap.size + 1) (bxc bx0) _ rfl rfl 4 arr4T (HR.out.below G2) rfl rfl (bxc_one _) ?_)
        | fail)
      try rw [Exit.noGoto_ret]
      refine bodyPost_ret (result_rec rfl rfl rfl arr4T hF rfl) rfl ?_
      rw [HY2.out]
      exact ⟨rfl, hFB⟩
    · obtain ⟨G, hG⟩ : ∃ G, G = boxG x.m b := ⟨_, rfl⟩
      have HY3 : Hid (Y = if firstE (fun k => (G k).2.2) ≠ 0 then (bx0, firstE (fun k => (G k).2.2)) else (bxAcc G 3, 0)) := Lib.hid (by rw [HY5.out, hG]; simp)
      have HG := Lib.hid hG
      clear hG HY5
      go_wp2_with fail
      go_loopw [43] (fun s43 wr => ∃ (i : Nat) (q : Bx), i ≤ 4 ∧ s43 = .int .i64 (i : Int) ∧ Hid (∀ j, j < i → (G j).2.2 = 0) ∧ Hid (0 < i → q = bxAcc G (i - 1)) ∧ Hid (BC wr w.heap.size (stC x (.slice Ap np cp) C D)) ∧ Hid (BC wr (w.heap.size + 1) (bxc q)) ∧ Below w.heap.size w wr) (fun s43 _ => 4 - (intOf s43).toNat)
      case atStart => exact ⟨0, bx0, by omega, by go_num, Lib.hid (fun j hj => by omega), Lib.hid (fun hj => by omega), Lib.hid (HA.out.below G2), Lib.hid (HR.out.below G2), B2⟩
      case round =>
        obtain ⟨wo, rfl⟩ : ∃ wo : World, wo = wr := ⟨_, rfl⟩
        obtain ⟨i, q, hi, rfl, hprev, hqe, hAA, hQQ, hbo⟩ := hrel
        have hc : i = 0 ∨ i = 1 ∨ i = 2 ∨ i = 3 ∨ i = 4 := by omega
        rcases hc with rfl | rfl | rfl | rfl | rfl
        · have ix := fun W => (idx4p b.x0 b.y0 b.x1 b.y0 b.x0 b.y1 b.x1 b.y1 W).1
          have N5 : BC (wo.alloc (.cells #[.int .i64 (b.x0), .int .i64 (b.y0)] 94)) wo.heap.size [.int .i64 (b.x0), .int .i64 (b.y0)] := BC.new [.int .i64 (b.x0), .int .i64 (b.y0)] 94 rfl
          have b5 := bal (Below.refl wo.heap.size wo) (.cells #[.int .i64 (b.x0), .int .i64 (b.y0)] 94)
          have B5 := bal hbo (.cells #[.int .i64 (b.x0), .int .i64 (b.y0)] 94)
          obtain ⟨w5, hw5⟩ : ∃ w5, w5 = wo.alloc (.cells #[.int .i64 (b.x0), .int .i64 (b.y0)] 94) := ⟨_, rfl⟩
          rw [← hw5] at N5 b5 B5
          have A5 := hAA.out.below b5
          have Q5 := hQQ.out.below b5
          go_upto_region 9 with (fail)
          rw [← hw5]
          clear hw5 hbo ix b5
          have HGK : Hid (G 0 = backM x.m (b.x0) (b.y0)) := Lib.hid (by rw [HG.out]; rfl)
          have HPQ := Lib.hid (matBack_any x.m (b.x0) (b.y0) w5)
          rw [← HGK.out] at HPQ
          obtain ⟨⟨u, v, e⟩, hq⟩ : ∃ p, G 0 = p := ⟨_, rfl⟩
          rw [hq] at HPQ
          unfold vP mtv at HPQ
          simp only at HPQ
          have HQ0 := Lib.hid hq
          have a0 := A5.c 0 _ rfl
          have a1 := A5.c 1 _ rfl
          have a2 := A5.c 2 _ rfl
          have a3 := A5.c 3 _ rfl
          have a4 := A5.c 4 _ rfl
          have a5 := A5.c 5 _ rfl
          have n0 := N5.c 0 _ rfl
          have n1 := N5.c 1 _ rfl
          clear hq
          go_wp2_with fail
          refine HPQ.out.mono ?_; rintro e' w6 ⟨rfl, hb6⟩
          have B6 := btr B5 hb6
          have A6 := A5.below hb6
          have Q6 := Q5.below hb6
          clear a0 a1 a2 a3 a4 a5 n0 n1 N5 A5 Q5 HPQ hb6
          by_cases he : e = 0
          case neg =>
            have hfe : firstE (fun k => (G k).2.2) = e := by rw [firstE_at (show 0 < 4 by omega) hprev.out (by simp only [HQ0.out]; exact he)]; simp only [HQ0.out]
            have HY2 : Hid (Y = (bx0, e)) := Lib.hid (by rw [HY3.out, hfe]; simp [he])
            have he0 : (e == 0) = false := by simp [he]
            clear hfe
            have hF := (Q6).putAll (bxc bx0) rfl
            have hFB := below_setCells (Nat.le_succ w.heap.size) (bxc bx0) 0 _ (B6)
            go_wp2_with (first
              | (refine wpList_load_rec rfl _ _ rfl (w.heap.size + 1) rfl _ 4 arr4T (Q6) rfl ?_)
              | (refine wpList_store_rec rfl _ _ _ rfl (w.heap.size + 1) (bxc bx0) _ rfl rfl 4 arr4T (Q6) rfl rfl (bxc_one _) ?_)
              | fail)
            try rw [Exit.noGoto_ret]
            refine bodyPost_ret (result_rec rfl rfl rfl arr4T hF rfl) rfl ?_
            rw [HY2.out]
            exact ⟨rfl, hFB⟩
          subst he
          have HPREV : Hid (∀ j, j < 0 + 1 → (G j).2.2 = 0) := Lib.hid (fun j hj => by
            rcases Nat.lt_or_ge j 0 with h | h
            · exact hprev.out j h
            · obtain rfl : j = 0 := by omega
              rw [HQ0.out])
          have one : ∀ v' ∈ bxc ⟨u, v, u, v⟩, v'.oneCell' = true := bxc_one _
          have p7 := Q6.putAll (bxc ⟨u, v, u, v⟩) rfl
          have a7 := A6.apart (show w.heap.size ≠ w.heap.size + 1 by omega) 0 (bxc ⟨u, v, u, v⟩)
          have B7 := below_setCells (Nat.le_succ w.heap.size) (bxc ⟨u, v, u, v⟩) 0 _ B6
          obtain ⟨w7, hw7⟩ : ∃ w7, w7 = w6.setCells (w.heap.size + 1) 0 (bxc ⟨u, v, u, v⟩) := ⟨_, rfl⟩
          rw [← hw7] at p7 a7 B7
          have HW7 := Lib.hid hw7
          clear hw7
          have c0 := (p7).c 0 _ rfl
          have c1 := (p7).c 1 _ rfl
          have c2 := (p7).c 2 _ rfl
          have c3 := (p7).c 3 _ rfl
          have p8 := (p7).putAll (bxc (⟨u, v, u, v⟩)) rfl
          have a8 := (a7).apart (show w.heap.size ≠ w.heap.size + 1 by omega) 0 (bxc (⟨u, v, u, v⟩))
          have B8 := below_setCells (Nat.le_succ w.heap.size) (bxc (⟨u, v, u, v⟩)) 0 _ (B7)
          go_wp2_with (first
            | (refine wpList_store_rec rfl _ _ _ rfl (w.heap.size + 1) (bxc ⟨u, v, u, v⟩) _ rfl rfl 4 arr4T Q6 rfl rfl one ?_; rw [← HW7.out])
            | (refine wpList_store_rec rfl _ _ _ rfl (w.heap.size + 1) (bxc ⟨u, v, u, v⟩) _ rfl rfl 4 arr4T p7 rfl rfl one ?_)
            | fail)
          go_roundw
          case rel => exact ⟨1, ⟨u, v, u, v⟩, by omega, by go_num, HPREV, Lib.hid (fun _ => by show _ = bxAcc G 0; unfold bxAcc; rw [HQ0.out]), Lib.hid a8, Lib.hid p8, B8⟩
          case measure => simp [intOf]
        · have ix := fun W => (idx4p b.x0 b.y0 b.x1 b.y0 b.x0 b.y1 b.x1 b.y1 W).2.1
          have N5 : BC (wo.alloc (.cells #[.int .i64 (b.x1), .int .i64 (b.y0)] 94)) wo.heap.size [.int .i64 (b.x1), .int .i64 (b.y0)] := BC.new [.int .i64 (b.x1), .int .i64 (b.y0)] 94 rfl
          have b5 := bal (Below.refl wo.heap.size wo) (.cells #[.int .i64 (b.x1), .int .i64 (b.y0)] 94)
          have B5 := bal hbo (.cells #[.int .i64 (b.x1), .int .i64 (b.y0)] 94)
          obtain ⟨w5, hw5⟩ : ∃ w5, w5 = wo.alloc (.cells #[.int .i64 (b.x1), .int .i64 (b.y0)] 94) := ⟨_, rfl⟩
          rw [← hw5] at N5 b5 B5
          have A5 := hAA.out.below b5
          have Q5 := hQQ.out.below b5
          go_upto_region 9 with (fail)
          rw [← hw5]
          clear hw5 hbo ix b5
          have HGK : Hid (G 1 = backM x.m (b.x1) (b.y0)) := Lib.hid (by rw [HG.out]; rfl)
          have HPQ := Lib.hid (matBack_any x.m (b.x1) (b.y0) w5)
          rw [← HGK.out] at HPQ
          obtain ⟨⟨u, v, e⟩, hq⟩ : ∃ p, G 1 = p := ⟨_, rfl⟩
          rw [hq] at HPQ
          unfold vP mtv at HPQ
          simp only at HPQ
          have HQ0 := Lib.hid hq
          have a0 := A5.c 0 _ rfl
          have a1 := A5.c 1 _ rfl
          have a2 := A5.c 2 _ rfl
          have a3 := A5.c 3 _ rfl
          have a4 := A5.c 4 _ rfl
          have a5 := A5.c 5 _ rfl
          have n0 := N5.c 0 _ rfl
          have n1 := N5.c 1 _ rfl
          clear hq
          go_wp2_with fail
          refine HPQ.out.mono ?_; rintro e' w6 ⟨rfl, hb6⟩
          have B6 := btr B5 hb6
          have A6 := A5.below hb6
          have Q6 := Q5.below hb6
          clear a0 a1 a2 a3 a4 a5 n0 n1 N5 A5 Q5 HPQ hb6
          by_cases he : e = 0
          case neg =>
            have hfe : firstE (fun k => (G k).2.2) = e := by rw [firstE_at (show 1 < 4 by omega) hprev.out (by simp only [HQ0.out]; exact he)]; simp only [HQ0.out]
            have HY2 : Hid (Y = (bx0, e)) := Lib.hid (by rw [HY3.out, hfe]; simp [he])
            have he0 : (e == 0) = false := by simp [he]
            clear hfe
            have hF := (Q6).putAll (bxc bx0) rfl
            have hFB := below_setCells (Nat.le_succ w.heap.size) (bxc bx0) 0 _ (B6)
            go_wp2_with (first
              | (refine wpList_load_rec rfl _ _ rfl (w.heap.size + 1) rfl _ 4 arr4T (Q6) rfl ?_)
              | (refine wpList_store_rec rfl _ _ _ rfl (w.heap.size + 1) (bxc bx0) _ rfl rfl 4 arr4T (Q6) rfl rfl (bxc_one _) ?_)
              | fail)
            try rw [Exit.noGoto_ret]
            refine bodyPost_ret (result_rec rfl rfl rfl arr4T hF rfl) rfl ?_
            rw [HY2.out]
            exact ⟨rfl, hFB⟩
          subst he
          have HPREV : Hid (∀ j, j < 1 + 1 → (G j).2.2 = 0) := Lib.hid (fun j hj => by
            rcases Nat.lt_or_ge j 1 with h | h
            · exact hprev.out j h
            · obtain rfl : j = 1 := by omega
              rw [HQ0.out])
          have c0 := (Q6).c 0 _ rfl
          have c1 := (Q6).c 1 _ rfl
          have c2 := (Q6).c 2 _ rfl
          have c3 := (Q6).c 3 _ rfl
          have p8 := (Q6).putAll (bxc (wid q u v)) rfl
          have a8 := (A6).apart (show w.heap.size ≠ w.heap.size + 1 by omega) 0 (bxc (wid q u v))
          have B8 := below_setCells (Nat.le_succ w.heap.size) (bxc (wid q u v)) 0 _ (B6)
          go_wp2_with (first
            | (refine wpList_store_rec rfl _ _ _ rfl (w.heap.size + 1) (bxc (wid q u v)) _ rfl rfl 4 arr4T Q6 rfl rfl (bxc_one _) ?_)
            | fail)
          go_roundw
          case rel => exact ⟨1 + 1, wid q u v, by omega, by go_num, HPREV, Lib.hid (fun _ => by rw [hqe.out (by omega)]; show _ = wid (bxAcc G (1 - 1)) (G 1).1 (G 1).2.1; rw [HQ0.out]), Lib.hid a8, Lib.hid p8, B8⟩
          case measure => simp [intOf]
        · have ix := fun W => (idx4p b.x0 b.y0 b.x1 b.y0 b.x0 b.y1 b.x1 b.y1 W).2.2.1
          have N5 : BC (wo.alloc (.cells #[.int .i64 (b.x0), .int .i64 (b.y1)] 94)) wo.heap.size [.int .i64 (b.x0), .int .i64 (b.y1)] := BC.new [.int .i64 (b.x0), .int .i64 (b.y1)] 94 rfl
          have b5 := bal (Below.refl wo.heap.size wo) (.cells #[.int .i64 (b.x0), .int .i64 (b.y1)] 94)
          have B5 := bal hbo (.cells #[.int .i64 (b.x0), .int .i64 (b.y1)] 94)
          obtain ⟨w5, hw5⟩ : ∃ w5, w5 = wo.alloc (.cells #[.int .i64 (b.x0), .int .i64 (b.y1)] 94) := ⟨_, rfl⟩
          rw [← hw5] at N5 b5 B5
          have A5 := hAA.out.below b5
          have Q5 := hQQ.out.below b5
          go_upto_region 9 with (fail)
          rw [← hw5]
          clear hw5 hbo ix b5
          have HGK : Hid (G 2 = backM x.m (b.x0) (b.y1)) := Lib.hid (by rw [HG.out]; rfl)
          have HPQ := Lib.hid (matBack_any x.m (b.x0) (b.y1) w5)
          rw [← HGK.out] at HPQ
          obtain ⟨⟨u, v, e⟩, hq⟩ : ∃ p, G 2 = p := ⟨_, rfl⟩
          rw [hq] at HPQ
          unfold vP mtv at HPQ
          simp only at HPQ
          have HQ0 := Lib.hid hq
          have a0 := A5.c 0 _ rfl
          have a1 := A5.c 1 _ rfl
          have a2 := A5.c 2 _ rfl
          have a3 := A5.c 3 _ rfl
          have a4 := A5.c 4 _ rfl
          have a5 := A5.c 5 _ rfl
          have n0 := N5.c 0 _ rfl
          have n1 := N5.c 1 _ rfl
          clear hq
          go_wp2_with fail
          refine HPQ.out.mono ?_; rintro e' w6 ⟨rfl, hb6⟩
          have B6 := btr B5 hb6
          have A6 := A5.below hb6
          have Q6 := Q5.below hb6
          clear a0 a1 a2 a3 a4 a5 n0 n1 N5 A5 Q5 HPQ hb6
          by_cases he : e = 0
          case neg =>
            have hfe : firstE (fun k => (G k).2.2) = e := by rw [firstE_at (show 2 < 4 by omega) hprev.out (by simp only [HQ0.out]; exact he)]; simp only [HQ0.out]
            have HY2 : Hid (Y = (bx0, e)) := Lib.hid (by rw [HY3.out, hfe]; simp [he])
            have he0 : (e == 0) = false := by simp [he]
            clear hfe
            have hF := (Q6).putAll (bxc bx0) rfl
            have hFB := below_setCells (Nat.le_succ w.heap.size) (bxc bx0) 0 _ (B6)
            go_wp2_with (first
              | (refine wpList_load_rec rfl _ _ rfl (w.heap.size + 1) rfl _ 4 arr4T (Q6) rfl ?_)
              | (refine wpList_store_rec rfl _ _ _ rfl (w.heap.size + 1) (bxc bx0) _ rfl rfl 4 arr4T (Q6) rfl rfl (bxc_one _) ?_)
              | fail)
            try rw [Exit.noGoto_ret]
            refine bodyPost_ret (result_rec rfl rfl rfl arr4T hF rfl) rfl ?_
            rw [HY2.out]
            exact ⟨rfl, hFB⟩
          subst he
          have HPREV : Hid (∀ j, j < 2 + 1 → (G j).2.2 = 0) := Lib.hid (fun j hj => by
            rcases Nat.lt_or_ge j 2 with h | h
            · exact hprev.out j h
            · obtain rfl : j = 2 := by omega
              rw [HQ0.out])
          have c0 := (Q6).c 0 _ rfl
          have c1 := (Q6).c 1 _ rfl
          have c2 := (Q6).c 2 _ rfl
          have c3 := (Q6).c 3 _ rfl
          have p8 := (Q6).putAll (bxc (wid q u v)) rfl
          have a8 := (A6).apart (show w.heap.size ≠ w.heap.size + 1 by omega) 0 (bxc (wid q u v))
          have B8 := below_setCells (Nat.le_succ w.heap.size) (bxc (wid q u v)) 0 _ (B6)
          go_wp2_with (first
            | (refine wpList_store_rec rfl _ _ _ rfl (w.heap.size + 1) (bxc (wid q u v)) _ rfl rfl 4 arr4T Q6 rfl rfl (bxc_one _) ?_)
            | fail)
          go_roundw
          case rel => exact ⟨2 + 1, wid q u v, by omega, by go_num, HPREV, Lib.hid (fun _ => by rw [hqe.out (by omega)]; show _ = wid (bxAcc G (2 - 1)) (G 2).1 (G 2).2.1; rw [HQ0.out]), Lib.hid a8, Lib.hid p8, B8⟩
          case measure => simp [intOf]
        · have ix := fun W => (idx4p b.x0 b.y0 b.x1 b.y0 b.x0 b.y1 b.x1 b.y1 W).2.2.2
          have N5 : BC (wo.alloc (.cells #[.int .i64 (b.x1), .int .i64 (b.y1)] 94)) wo.heap.size [.int .i64 (b.x1), .int .i64 (b.y1)] := BC.new [.int .i64 (b.x1), .int .i64 (b.y1)] 94 rfl
          have b5 := bal (Below.refl wo.heap.size wo) (.cells #[.int .i64 (b.x1), .int .i64 (b.y1)] 94)
          have B5 := bal hbo (.cells #[.int .i64 (b.x1), .int .i64 (b.y1)] 94)
          obtain ⟨w5, hw5⟩ : ∃ w5, w5 = wo.alloc (.cells #[.int .i64 (b.x1), .int .i64 (b.y1)] 94) := ⟨_, rfl⟩
          rw [← hw5] at N5 b5 B5
          have A5 := hAA.out.below b5
          have Q5 := hQQ.out.below b5
          go_upto_region 9 with (fail)
          rw [← hw5]
          clear hw5 hbo ix b5
          have HGK : Hid (G 3 = backM x.m (b.x1) (b.y1)) := Lib.hid (by rw [HG.out]; rfl)
          have HPQ := Lib.hid (matBack_any x.m (b.x1) (b.y1) w5)
          rw [← HGK.out] at HPQ
          obtain ⟨⟨u, v, e⟩, hq⟩ : ∃ p, G 3 = p := ⟨_, rfl⟩
          rw [hq] at HPQ
          unfold vP mtv at HPQ
          simp only at HPQ
          have HQ0 := Lib.hid hq
          have a0 := A5.c 0 _ rfl
          have a1 := A5.c 1 _ rfl
          have a2 := A5.c 2 _ rfl
          have a3 := A5.c 3 _ rfl
          have a4 := A5.c 4 _ rfl
          have a5 := A5.c 5 _ rfl
          have n0 := N5.c 0 _ rfl
          have n1 := N5.c 1 _ rfl
          clear hq
          go_wp2_with fail
          refine HPQ.out.mono ?_; rintro e' w6 ⟨rfl, hb6⟩
          have B6 := btr B5 hb6
          have A6 := A5.below hb6
          have Q6 := Q5.below hb6
          clear a0 a1 a2 a3 a4 a5 n0 n1 N5 A5 Q5 HPQ hb6
          by_cases he : e = 0
          case neg =>
            have hfe : firstE (fun k => (G k).2.2) = e := by rw [firstE_at (show 3 < 4 by omega) hprev.out (by simp only [HQ0.out]; exact he)]; simp only [HQ0.out]
            have HY2 : Hid (Y = (bx0, e)) := Lib.hid (by rw [HY3.out, hfe]; simp [he])
            have he0 : (e == 0) = false := by simp [he]
            clear hfe
            have hF := (Q6).putAll (bxc bx0) rfl
            have hFB := below_setCells (Nat.le_succ w.heap.size) (bxc bx0) 0 _ (B6)
            go_wp2_with (first
              | (refine wpList_load_rec rfl _ _ rfl (w.heap.size + 1) rfl _ 4 arr4T (Q6) rfl ?_)
              | (refine wpList_store_rec rfl _ _ _ rfl (w.heap.size + 1) (bxc bx0) _ rfl rfl 4 arr4T (Q6) rfl rfl (bxc_one _) ?_)
              | fail)
            try rw [Exit.noGoto_ret]
            refine bodyPost_ret (result_rec rfl rfl rfl arr4T hF rfl) rfl ?_
            rw [HY2.out]
            exact ⟨rfl, hFB⟩
          subst he
          have HPREV : Hid (∀ j, j < 3 + 1 → (G j).2.2 = 0) := Lib.hid (fun j hj => by
            rcases Nat.lt_or_ge j 3 with h | h
            · exact hprev.out j h
            · obtain rfl : j = 3 := by omega
              rw [HQ0.out])
          have c0 := (Q6).c 0 _ rfl
          have c1 := (Q6).c 1 _ rfl
          have c2 := (Q6).c 2 _ rfl
          have c3 := (Q6).c 3 _ rfl
          have p8 := (Q6).putAll (bxc (wid q u v)) rfl
          have a8 := (A6).apart (show w.heap.size ≠ w.heap.size + 1 by omega) 0 (bxc (wid q u v))
          have B8 := below_setCells (Nat.le_succ w.heap.size) (bxc (wid q u v)) 0 _ (B6)
          go_wp2_with (first
            | (refine wpList_store_rec rfl _ _ _ rfl (w.heap.size + 1) (bxc (wid q u v)) _ rfl rfl 4 arr4T Q6 rfl rfl (bxc_one _) ?_)
            | fail)
          go_roundw
          case rel => exact ⟨3 + 1, wid q u v, by omega, by go_num, HPREV, Lib.hid (fun _ => by rw [hqe.out (by omega)]; show _ = wid (bxAcc G (3 - 1)) (G 3).1 (G 3).2.1; rw [HQ0.out]), Lib.hid a8, Lib.hid p8, B8⟩
          case measure => simp [intOf]
        · have HY2 : Hid (Y = (bxAcc G 3, 0)) := Lib.hid (by rw [HY3.out, firstE_none hprev.out]; simp)
          have hq3 : q = bxAcc G 3 := hqe.out (by omega)
          have HQ3 := Lib.hid hq3
          have QF := hQQ.out
          have hF := QF.putAll (bxc q) rfl
          have hFB := below_setCells (Nat.le_succ w.heap.size) (bxc q) 0 _ hbo
          clear hq3
          go_wp2_with (first
            | (refine wpList_load_rec rfl _ _ rfl (w.heap.size + 1) rfl _ 4 arr4T QF rfl ?_)
            | (refine wpList_store_rec rfl _ _ _ rfl (w.heap.size + 1) (bxc q) _ rfl rfl 4 arr4T QF rfl rfl (bxc_one _) ?_)
            | fail)
          refine bodyPost_ret (result_rec rfl rfl rfl arr4T hF rfl) rfl ?_
          rw [HY2.out, ← HQ3.out]
          exact ⟨rfl, hFB⟩
end Go.Proofs.Ytaadajadeemndaa

namespace Go.Proofs.Ytaadajadeemndaa
open Go.RowKit Go.BigFrame

def bxBig : Bx := ⟨1099511627776, 1099511627776, -1099511627776, -1099511627776⟩
theorem bx_next {G : Nat → Int × Int × Int} {k : Nat} {u v e : Int} {q : Bx} (h0 : G k = (u, v, e)) (hb : -1073741823 ≤ u ∧ u ≤ 1073741823 ∧ -1073741823 ≤ v ∧ v ≤ 1073741823) (hq : q = if k = 0 then bxBig else bxAcc G (k - 1)) : wid q u v = bxAcc G k := by
  cases k with
  | zero =>
    rw [hq, if_pos rfl]
    unfold bxAcc
    rw [h0]
    exact wid_big u v ⟨hb.1, hb.2.1⟩ hb.2.2
  | succ k =>
    rw [hq, if_neg (by omega)]
    show _ = wid (bxAcc G k) (G (k + 1)).1 (G (k + 1)).2.1
    rw [h0]
    rfl
set_option maxRecDepth 100000 in
set_option maxHeartbeats 8000000 in
theorem rBoxS_any (x : St) (P C D : Value) (Y : Bx × Int) (w : World) (h : StAt w x P C D) (hf : stFew x) (hY : boxS x = Y) : Calls Try.prog 34 #[.agg (stC x P C D).toArray] w
    fun r w' => r = .returned (.tuple #[.agg (bxc Y.1).toArray, .int .i64 Y.2]) ∧ Below w.heap.size w w' := by
  obtain ⟨w0, hw0⟩ : ∃ w0 : World, w0 = (w.alloc (.cells (stC x P C D).toArray 34)).alloc (.cells (bxc bx0).toArray 69) := ⟨_, rfl⟩
  have hB0 : Below w.heap.size w w0 := by rw [hw0]; exact bal (bal (Below.refl _ _) _) _
  have hA : BC w0 w.heap.size (stC x P C D) := by rw [hw0]; exact (BC.new (stC x P C D) 34 rfl).below (bal (Below.refl _ _) _)
  have hR : BC w0 (w.heap.size + 1) (bxc bx0) := by rw [hw0]; exact BC.new (w := w.alloc (.cells (stC x P C D).toArray 34)) _ 69 (by simp)
  have hgA := hA.lt
  have hgR := hR.lt
  have h0 := h.below hB0
  unfold bxc bx0 at hw0
  simp only at hw0
  obtain ⟨Ap, cp, rfl, hp, hpc, hpm⟩ := h0.p
  obtain ⟨np, hnp⟩ : ∃ n, n = x.p.length := ⟨_, rfl⟩
  rw [← hnp] at hw0 hA hp hpc h h0 ⊢
  have hnp3 : np ≤ 1000 := by rw [hnp]; exact hf.1
  have HY := Lib.hid hY
  have HM := Lib.hid fun W (hb : Below w0.heap.size w0 W) => rStMay_any x (.slice Ap np cp) C D W (h0.below hb) hf
  have HP := Lib.hid hp
  have HA := Lib.hid hA
  have HR := Lib.hid hR
  clear hY h0 h hp hA hR hnp hf
  go_enter Try.func34, Try.ntmps34
  go_upto_region 1 with (fail)
  rw [← hw0]
  clear hw0
  go_wp2_with (first
    | (refine wpList_load_rec rfl _ _ rfl w.heap.size rfl _ 24 stT HA.out rfl ?_)
    | fail)
  refine (HM.out _ (Below.refl _ _)).mono ?_; rintro e w1 ⟨rfl, hb1⟩
  have G1 := hb1
  have B1 := btr hB0 G1
  clear hb1
  cases hm : mayS x
  · have HY2 : Hid (Y = (bx0, 1)) := Lib.hid (by rw [← HY.out]; unfold boxS; rw [hm]; simp)
    have hF := (HR.out.below G1).putAll (bxc bx0) rfl
    have hFB := below_setCells (Nat.le_succ w.heap.size) (bxc bx0) 0 _ (B1)
    go_wp2_with (first
      | (refine wpList_load_rec rfl _ _ rfl (w.heap.size + 1) rfl _ 4 arr4T (HR.out.below G1) rfl ?_)
      | (refine wpList_store_rec rfl _ _ _ rfl (w.heap.size + 1) (bxc bx0) _ rfl rfl 4 arr4T (HR.out.below G1) rfl rfl (bxc_one _) ?_)
      | fail)
    try rw [Exit.noGoto_ret]
    refine bodyPost_ret (result_rec rfl rfl rfl arr4T hF rfl) rfl ?_
    rw [HY2.out]
    exact ⟨rfl, hFB⟩
  · obtain ⟨⟨b, ok⟩, hbx⟩ : ∃ E, boxL x.p = E := ⟨_, rfl⟩
    have HBx := Lib.hid fun W (hb : Below w0.heap.size w0 W) => ref_Box_any Ap np cp x.p (b, ok) W (by omega) (HP.out.below hb) hbx
    simp only at HBx
    have HY5 : Hid (Y = if ok = false then (bx0, 13) else if firstE (fun k => (boxG x.m b k).2.2) ≠ 0 then (bx0, firstE (fun k => (boxG x.m b k).2.2)) else (bxAcc (boxG x.m b) 3, 0)) := Lib.hid (by rw [← HY.out]; unfold boxS; rw [hm, hbx]; simp)
    have c6 := (HA.out.below G1).c 6 _ rfl
    clear hbx hm HY
    go_wp2_with fail
    refine (HBx.out _ G1).mono ?_; rintro e w2 ⟨rfl, hb2⟩
    have G2 := btr G1 hb2
    have B2 := btr B1 hb2
    clear c6 HBx hb2
    cases ok
    · have HY2 : Hid (Y = (bx0, 13)) := Lib.hid (by rw [HY5.out]; simp)
      have hF := (HR.out.below G2).putAll (bxc bx0) rfl
      have hFB := below_setCells (Nat.le_succ w.heap.size) (bxc bx0) 0 _ (B2)
      go_wp2_with (first
        | (refine wpList_load_rec rfl _ _ rfl (w.heap.size + 1) rfl _ 4 arr4T (HR.out.below G2) rfl ?_)
        | (refine wpList_store_rec rfl _ _ _ rfl (w.heap.size + 1) (bxc bx0) _ rfl rfl 4 arr4T (HR.out.below G2) rfl rfl (bxc_one _) ?_)
        | fail)
      try rw [Exit.noGoto_ret]
      refine bodyPost_ret (result_rec rfl rfl rfl arr4T hF rfl) rfl ?_
      rw [HY2.out]
      exact ⟨rfl, hFB⟩
    · obtain ⟨G, hG⟩ : ∃ G, G = boxG x.m b := ⟨_, rfl⟩
      have HY3 : Hid (Y = if firstE (fun k => (G k).2.2) ≠ 0 then (bx0, firstE (fun k => (G k).2.2)) else (bxAcc G 3, 0)) := Lib.hid (by rw [HY5.out, hG]; simp)
      have HG := Lib.hid hG
      clear hG HY5
      have G3 : Below w0.heap.size w0 (w2.alloc (.cells (bxc bxBig).toArray 69)) := bal G2 _
      have Z3 : BC (w2.alloc (.cells (bxc bxBig).toArray 69)) w2.heap.size (bxc bxBig) := BC.new _ 69 rfl
      obtain ⟨g9, hg9⟩ : ∃ g, g = w2.heap.size := ⟨_, rfl⟩
      have hg9b : w.heap.size + 1 < g9 := by rw [hg9]; have := G2.size; omega
      obtain ⟨w3, hw3⟩ : ∃ w3, w3 = w2.alloc (.cells (bxc bxBig).toArray 69) := ⟨_, rfl⟩
      rw [← hw3] at G3 Z3
      rw [← hg9] at Z3
      have HG9 := Lib.hid hg9
      unfold bxc bxBig at hw3
      simp only at hw3
      clear hg9
      go_upto_region 7 with (fail)
      rw [← hw3, ← HG9.out]
      clear hw3
      have B3 := btr hB0 G3
      go_wp2_with fail
      go_loopw [10] (fun s10 wr => ∃ (i : Nat) (q : Bx), i ≤ 4 ∧ s10 = .int .i64 (i : Int) ∧ Hid (∀ j, j < i → (G j).2.2 = 0) ∧ Hid (q = if i = 0 then bxBig else bxAcc G (i - 1)) ∧ Hid (BC wr w.heap.size (stC x (.slice Ap np cp) C D)) ∧ Hid (BC wr (w.heap.size + 1) (bxc bx0)) ∧ Hid (BC wr g9 (bxc q)) ∧ Below w.heap.size w wr) (fun s10 _ => 4 - (intOf s10).toNat)
      case atStart => exact ⟨0, bxBig, by omega, rfl, Lib.hid (fun j hj => by omega), Lib.hid rfl, Lib.hid (HA.out.below G3), Lib.hid (HR.out.below G3), Lib.hid Z3, B3⟩
      case round =>
        obtain ⟨wo, rfl⟩ : ∃ wo : World, wo = wr := ⟨_, rfl⟩
        obtain ⟨i, q, hi, rfl, hprev, hqe, hAA, hRR, hQQ, hbo⟩ := hrel
        have hc : i = 0 ∨ i = 1 ∨ i = 2 ∨ i = 3 ∨ i = 4 := by omega
        rcases hc with rfl | rfl | rfl | rfl | rfl
        · have HGK : Hid (G 0 = backM x.m (b.x0) (b.y0)) := Lib.hid (by rw [HG.out]; rfl)
          have hgb : -1073741823 ≤ (G 0).1 ∧ (G 0).1 ≤ 1073741823 ∧ -1073741823 ≤ (G 0).2.1 ∧ (G 0).2.1 ≤ 1073741823 := by rw [HGK.out]; exact backM_bd _ _ _
          have HPQ := Lib.hid (rBackM_any x.m (b.x0) (b.y0) (G 0) wo HGK.out.symm)
          obtain ⟨⟨u, v, e⟩, hq⟩ : ∃ p, G 0 = p := ⟨_, rfl⟩
          rw [hq] at HPQ hgb
          unfold vP mtv at HPQ
          simp only at HPQ hgb
          have HGB := Lib.hid hgb
          have HQ0 := Lib.hid hq
          have A5 := hAA.out
          have a0 := A5.c 0 _ rfl
          have a1 := A5.c 1 _ rfl
          have a2 := A5.c 2 _ rfl
          have a3 := A5.c 3 _ rfl
          have a4 := A5.c 4 _ rfl
          have a5 := A5.c 5 _ rfl
          clear hq hgb
          go_wp2_with fail
          refine HPQ.out.mono ?_; rintro e' w6 ⟨rfl, hb6⟩
          have B6 := btr hbo hb6
          have A6 := A5.below hb6
          have Q6 := hQQ.out.below hb6
          have R6 := hRR.out.below hb6
          clear a0 a1 a2 a3 a4 a5 A5 HPQ hb6 hbo
          by_cases he : e = 0
          case neg =>
            have hfe : firstE (fun k => (G k).2.2) = e := by rw [firstE_at (show 0 < 4 by omega) hprev.out (by simp only [HQ0.out]; exact he)]; simp only [HQ0.out]
            have HY2 : Hid (Y = (bx0, e)) := Lib.hid (by rw [HY3.out, hfe]; simp [he])
            have he0 : (e == 0) = false := by simp [he]
            clear hfe
            have hF := (R6).putAll (bxc bx0) rfl
            have hFB := below_setCells (Nat.le_succ w.heap.size) (bxc bx0) 0 _ (B6)
            go_wp2_with (first
              | (refine wpList_load_rec rfl _ _ rfl (w.heap.size + 1) rfl _ 4 arr4T (R6) rfl ?_)
              | (refine wpList_store_rec rfl _ _ _ rfl (w.heap.size + 1) (bxc bx0) _ rfl rfl 4 arr4T (R6) rfl rfl (bxc_one _) ?_)
              | fail)
            try rw [Exit.noGoto_ret]
            refine bodyPost_ret (result_rec rfl rfl rfl arr4T hF rfl) rfl ?_
            rw [HY2.out]
            exact ⟨rfl, hFB⟩
          subst he
          have HPREV : Hid (∀ j, j < 0 + 1 → (G j).2.2 = 0) := Lib.hid (fun j hj => by
            rcases Nat.lt_or_ge j 0 with h | h
            · exact hprev.out j h
            · obtain rfl : j = 0 := by omega
              rw [HQ0.out])
          have c0 := Q6.c 0 _ rfl
          have c1 := Q6.c 1 _ rfl
          have c2 := Q6.c 2 _ rfl
          have c3 := Q6.c 3 _ rfl
          have p8 := Q6.putAll (bxc (wid q u v)) rfl
          have a8 := A6.apart (show w.heap.size ≠ g9 by omega) 0 (bxc (wid q u v))
          have r8 := R6.apart (show w.heap.size + 1 ≠ g9 by omega) 0 (bxc (wid q u v))
          have B8 := below_setCells (show w.heap.size ≤ g9 by omega) (bxc (wid q u v)) 0 _ B6
          have HQN : Hid (wid q u v = bxAcc G 0) := Lib.hid (bx_next HQ0.out HGB.out hqe.out)
          go_wp2_with (first
            | (refine wpList_store_rec rfl _ _ _ rfl g9 (bxc (wid q u v)) _ rfl rfl 4 arr4T Q6 rfl rfl (bxc_one _) ?_)
            | fail)
          go_roundw
          case rel => exact ⟨0 + 1, wid q u v, by omega, by go_num, HPREV, Lib.hid (by rw [HQN.out]; rfl), Lib.hid a8, Lib.hid r8, Lib.hid p8, B8⟩
          case measure => simp [intOf]
        · have HGK : Hid (G 1 = backM x.m (b.x1) (b.y0)) := Lib.hid (by rw [HG.out]; rfl)
          have hgb : -1073741823 ≤ (G 1).1 ∧ (G 1).1 ≤ 1073741823 ∧ -1073741823 ≤ (G 1).2.1 ∧ (G 1).2.1 ≤ 1073741823 := by rw [HGK.out]; exact backM_bd _ _ _
          have HPQ := Lib.hid (rBackM_any x.m (b.x1) (b.y0) (G 1) wo HGK.out.symm)
          obtain ⟨⟨u, v, e⟩, hq⟩ : ∃ p, G 1 = p := ⟨_, rfl⟩
          rw [hq] at HPQ hgb
          unfold vP mtv at HPQ
          simp only at HPQ hgb
          have HGB := Lib.hid hgb
          have HQ0 := Lib.hid hq
          have A5 := hAA.out
          have a0 := A5.c 0 _ rfl
          have a1 := A5.c 1 _ rfl
          have a2 := A5.c 2 _ rfl
          have a3 := A5.c 3 _ rfl
          have a4 := A5.c 4 _ rfl
          have a5 := A5.c 5 _ rfl
          clear hq hgb
          go_wp2_with fail
          refine HPQ.out.mono ?_; rintro e' w6 ⟨rfl, hb6⟩
          have B6 := btr hbo hb6
          have A6 := A5.below hb6
          have Q6 := hQQ.out.below hb6
          have R6 := hRR.out.below hb6
          clear a0 a1 a2 a3 a4 a5 A5 HPQ hb6 hbo
          by_cases he : e = 0
          case neg =>
            have hfe : firstE (fun k => (G k).2.2) = e := by rw [firstE_at (show 1 < 4 by omega) hprev.out (by simp only [HQ0.out]; exact he)]; simp only [HQ0.out]
            have HY2 : Hid (Y = (bx0, e)) := Lib.hid (by rw [HY3.out, hfe]; simp [he])
            have he0 : (e == 0) = false := by simp [he]
            clear hfe
            have hF := (R6).putAll (bxc bx0) rfl
            have hFB := below_setCells (Nat.le_succ w.heap.size) (bxc bx0) 0 _ (B6)
            go_wp2_with (first
              | (refine wpList_load_rec rfl _ _ rfl (w.heap.size + 1) rfl _ 4 arr4T (R6) rfl ?_)
              | (refine wpList_store_rec rfl _ _ _ rfl (w.heap.size + 1) (bxc bx0) _ rfl rfl 4 arr4T (R6) rfl rfl (bxc_one _) ?_)
              | fail)
            try rw [Exit.noGoto_ret]
            refine bodyPost_ret (result_rec rfl rfl rfl arr4T hF rfl) rfl ?_
            rw [HY2.out]
            exact ⟨rfl, hFB⟩
          subst he
          have HPREV : Hid (∀ j, j < 1 + 1 → (G j).2.2 = 0) := Lib.hid (fun j hj => by
            rcases Nat.lt_or_ge j 1 with h | h
            · exact hprev.out j h
            · obtain rfl : j = 1 := by omega
              rw [HQ0.out])
          have c0 := Q6.c 0 _ rfl
          have c1 := Q6.c 1 _ rfl
          have c2 := Q6.c 2 _ rfl
          have c3 := Q6.c 3 _ rfl
          have p8 := Q6.putAll (bxc (wid q u v)) rfl
          have a8 := A6.apart (show w.heap.size ≠ g9 by omega) 0 (bxc (wid q u v))
          have r8 := R6.apart (show w.heap.size + 1 ≠ g9 by omega) 0 (bxc (wid q u v))
          have B8 := below_setCells (show w.heap.size ≤ g9 by omega) (bxc (wid q u v)) 0 _ B6
          have HQN : Hid (wid q u v = bxAcc G 1) := Lib.hid (bx_next HQ0.out HGB.out hqe.out)
          go_wp2_with (first
            | (refine wpList_store_rec rfl _ _ _ rfl g9 (bxc (wid q u v)) _ rfl rfl 4 arr4T Q6 rfl rfl (bxc_one _) ?_)
            | fail)
          go_roundw
          case rel => exact ⟨1 + 1, wid q u v, by omega, by go_num, HPREV, Lib.hid (by rw [HQN.out]; rfl), Lib.hid a8, Lib.hid r8, Lib.hid p8, B8⟩
          case measure => simp [intOf]
        · have HGK : Hid (G 2 = backM x.m (b.x0) (b.y1)) := Lib.hid (by rw [HG.out]; rfl)
          have hgb : -1073741823 ≤ (G 2).1 ∧ (G 2).1 ≤ 1073741823 ∧ -1073741823 ≤ (G 2).2.1 ∧ (G 2).2.1 ≤ 1073741823 := by rw [HGK.out]; exact backM_bd _ _ _
          have HPQ := Lib.hid (rBackM_any x.m (b.x0) (b.y1) (G 2) wo HGK.out.symm)
          obtain ⟨⟨u, v, e⟩, hq⟩ : ∃ p, G 2 = p := ⟨_, rfl⟩
          rw [hq] at HPQ hgb
          unfold vP mtv at HPQ
          simp only at HPQ hgb
          have HGB := Lib.hid hgb
          have HQ0 := Lib.hid hq
          have A5 := hAA.out
          have a0 := A5.c 0 _ rfl
          have a1 := A5.c 1 _ rfl
          have a2 := A5.c 2 _ rfl
          have a3 := A5.c 3 _ rfl
          have a4 := A5.c 4 _ rfl
          have a5 := A5.c 5 _ rfl
          clear hq hgb
          go_wp2_with fail
          refine HPQ.out.mono ?_; rintro e' w6 ⟨rfl, hb6⟩
          have B6 := btr hbo hb6
          have A6 := A5.below hb6
          have Q6 := hQQ.out.below hb6
          have R6 := hRR.out.below hb6
          clear a0 a1 a2 a3 a4 a5 A5 HPQ hb6 hbo
          by_cases he : e = 0
          case neg =>
            have hfe : firstE (fun k => (G k).2.2) = e := by rw [firstE_at (show 2 < 4 by omega) hprev.out (by simp only [HQ0.out]; exact he)]; simp only [HQ0.out]
            have HY2 : Hid (Y = (bx0, e)) := Lib.hid (by rw [HY3.out, hfe]; simp [he])
            have he0 : (e == 0) = false := by simp [he]
            clear hfe
            have hF := (R6).putAll (bxc bx0) rfl
            have hFB := below_setCells (Nat.le_succ w.heap.size) (bxc bx0) 0 _ (B6)
            go_wp2_with (first
              | (refine wpList_load_rec rfl _ _ rfl (w.heap.size + 1) rfl _ 4 arr4T (R6) rfl ?_)
              | (refine wpList_store_rec rfl _ _ _ rfl (w.heap.size + 1) (bxc bx0) _ rfl rfl 4 arr4T (R6) rfl rfl (bxc_one _) ?_)
              | fail)
            try rw [Exit.noGoto_ret]
            refine bodyPost_ret (result_rec rfl rfl rfl arr4T hF rfl) rfl ?_
            rw [HY2.out]
            exact ⟨rfl, hFB⟩
          subst he
          have HPREV : Hid (∀ j, j < 2 + 1 → (G j).2.2 = 0) := Lib.hid (fun j hj => by
            rcases Nat.lt_or_ge j 2 with h | h
            · exact hprev.out j h
            · obtain rfl : j = 2 := by omega
              rw [HQ0.out])
          have c0 := Q6.c 0 _ rfl
          have c1 := Q6.c 1 _ rfl
          have c2 := Q6.c 2 _ rfl
          have c3 := Q6.c 3 _ rfl
          have p8 := Q6.putAll (bxc (wid q u v)) rfl
          have a8 := A6.apart (show w.heap.size ≠ g9 by omega) 0 (bxc (wid q u v))
          have r8 := R6.apart (show w.heap.size + 1 ≠ g9 by omega) 0 (bxc (wid q u v))
          have B8 := below_setCells (show w.heap.size ≤ g9 by omega) (bxc (wid q u v)) 0 _ B6
          have HQN : Hid (wid q u v = bxAcc G 2) := Lib.hid (bx_next HQ0.out HGB.out hqe.out)
          go_wp2_with (first
            | (refine wpList_store_rec rfl _ _ _ rfl g9 (bxc (wid q u v)) _ rfl rfl 4 arr4T Q6 rfl rfl (bxc_one _) ?_)
            | fail)
          go_roundw
          case rel => exact ⟨2 + 1, wid q u v, by omega, by go_num, HPREV, Lib.hid (by rw [HQN.out]; rfl), Lib.hid a8, Lib.hid r8, Lib.hid p8, B8⟩
          case measure => simp [intOf]
        · have HGK : Hid (G 3 = backM x.m (b.x1) (b.y1)) := Lib.hid (by rw [HG.out]; rfl)
          have hgb : -1073741823 ≤ (G 3).1 ∧ (G 3).1 ≤ 1073741823 ∧ -1073741823 ≤ (G 3).2.1 ∧ (G 3).2.1 ≤ 1073741823 := by rw [HGK.out]; exact backM_bd _ _ _
          have HPQ := Lib.hid (rBackM_any x.m (b.x1) (b.y1) (G 3) wo HGK.out.symm)
          obtain ⟨⟨u, v, e⟩, hq⟩ : ∃ p, G 3 = p := ⟨_, rfl⟩
          rw [hq] at HPQ hgb
          unfold vP mtv at HPQ
          simp only at HPQ hgb
          have HGB := Lib.hid hgb
          have HQ0 := Lib.hid hq
          have A5 := hAA.out
          have a0 := A5.c 0 _ rfl
          have a1 := A5.c 1 _ rfl
          have a2 := A5.c 2 _ rfl
          have a3 := A5.c 3 _ rfl
          have a4 := A5.c 4 _ rfl
          have a5 := A5.c 5 _ rfl
          clear hq hgb
          go_wp2_with fail
          refine HPQ.out.mono ?_; rintro e' w6 ⟨rfl, hb6⟩
          have B6 := btr hbo hb6
          have A6 := A5.below hb6
          have Q6 := hQQ.out.below hb6
          have R6 := hRR.out.below hb6
          clear a0 a1 a2 a3 a4 a5 A5 HPQ hb6 hbo
          by_cases he : e = 0
          case neg =>
            have hfe : firstE (fun k => (G k).2.2) = e := by rw [firstE_at (show 3 < 4 by omega) hprev.out (by simp only [HQ0.out]; exact he)]; simp only [HQ0.out]
            have HY2 : Hid (Y = (bx0, e)) := Lib.hid (by rw [HY3.out, hfe]; simp [he])
            have he0 : (e == 0) = false := by simp [he]
            clear hfe
            have hF := (R6).putAll (bxc bx0) rfl
            have hFB := below_setCells (Nat.le_succ w.heap.size) (bxc bx0) 0 _ (B6)
            go_wp2_with (first
              | (refine wpList_load_rec rfl _ _ rfl (w.heap.size + 1) rfl _ 4 arr4T (R6) rfl ?_)
              | (refine wpList_store_rec rfl _ _ _ rfl (w.heap.size + 1) (bxc bx0) _ rfl rfl 4 arr4T (R6) rfl rfl (bxc_one _) ?_)
              | fail)
            try rw [Exit.noGoto_ret]
            refine bodyPost_ret (result_rec rfl rfl rfl arr4T hF rfl) rfl ?_
            rw [HY2.out]
            exact ⟨rfl, hFB⟩
          subst he
          have HPREV : Hid (∀ j, j < 3 + 1 → (G j).2.2 = 0) := Lib.hid (fun j hj => by
            rcases Nat.lt_or_ge j 3 with h | h
            · exact hprev.out j h
            · obtain rfl : j = 3 := by omega
              rw [HQ0.out])
          have c0 := Q6.c 0 _ rfl
          have c1 := Q6.c 1 _ rfl
          have c2 := Q6.c 2 _ rfl
          have c3 := Q6.c 3 _ rfl
          have p8 := Q6.putAll (bxc (wid q u v)) rfl
          have a8 := A6.apart (show w.heap.size ≠ g9 by omega) 0 (bxc (wid q u v))
          have r8 := R6.apart (show w.heap.size + 1 ≠ g9 by omega) 0 (bxc (wid q u v))
          have B8 := below_setCells (show w.heap.size ≤ g9 by omega) (bxc (wid q u v)) 0 _ B6
          have HQN : Hid (wid q u v = bxAcc G 3) := Lib.hid (bx_next HQ0.out HGB.out hqe.out)
          go_wp2_with (first
            | (refine wpList_store_rec rfl _ _ _ rfl g9 (bxc (wid q u v)) _ rfl rfl 4 arr4T Q6 rfl rfl (bxc_one _) ?_)
            | fail)
          go_roundw
          case rel => exact ⟨3 + 1, wid q u v, by omega, by go_num, HPREV, Lib.hid (by rw [HQN.out]; rfl), Lib.hid a8, Lib.hid r8, Lib.hid p8, B8⟩
          case measure => simp [intOf]
        · have HY2 : Hid (Y = (bxAcc G 3, 0)) := Lib.hid (by rw [HY3.out, firstE_none hprev.out]; simp)
          have HQ3 : Hid (q = bxAcc G 3) := Lib.hid hqe.out
          have QF := hQQ.out
          have RF := hRR.out
          have hF := RF.putAll (bxc q) rfl
          have hFB := below_setCells (Nat.le_succ w.heap.size) (bxc q) 0 _ hbo
          go_wp2_with (first
            | (refine wpList_load_rec rfl _ _ rfl g9 rfl _ 4 arr4T QF rfl ?_)
            | (refine wpList_store_rec rfl _ _ _ rfl (w.heap.size + 1) (bxc q) _ rfl rfl 4 arr4T RF rfl rfl (bxc_one _) ?_)
            | fail)
          refine bodyPost_ret (result_rec rfl rfl rfl arr4T hF rfl) rfl ?_
          rw [HY2.out, ← HQ3.out]
          exact ⟨rfl, hFB⟩
end Go.Proofs.Ytaadajadeemndaa

namespace Go.Proofs.Ytaadajadeemndaa
open Go.RowKit
set_option maxRecDepth 100000 in
set_option maxHeartbeats 1000000 in
theorem eql_bx (b : Bx) (w : World) : (binOp .eql 69 (.agg (bxc b).toArray) (.agg (bxc b).toArray)).run Try.prog w = .ok (.bool true) w := by
  obtain ⟨i, hi⟩ : ∃ i, Try.prog.info? 3 = some i := ⟨_, rfl⟩
  unfold bxc
  simp [go_sem]
  rw [run_equalIn_array (P := Try.prog) (w := w) 9999 _ _ Try.underlying69 hi]
  have hr : List.range 4 = [0, 1, 2, 3] := rfl
  have hc : Try.prog.cellsOf 3 = 1 := by kernel_rfl
  rw [hr, hc]
  simp [Op.eqItems, go_sem]
end Go.Proofs.Ytaadajadeemndaa
