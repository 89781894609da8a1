/- mat.det, Back. -/
import Derived.Test.YtaadajadeemndaaWide3
import Derived.Test.YtaadajadeemndaaMat4
namespace Go.Proofs.Ytaadajadeemndaa
open Go.RowKit Go.BigFrame

def detM (m : Mt) : Int := m.a * m.d - m.b * m.c
/-- Device units as a place of a user. -/
def backM (m : Mt) (px py : Int) : Int × Int × Int :=
  if mtB m = false then (0, 0, 1) else if (nearP px py 8191).2.2 ≠ 0 then (0, 0, 1) else if detM m = 0 then (0, 0, 14)
  else if (mdv (m.d * (px * 65536 - m.e) - m.c * (py * 65536 - m.f)) (detM m)).2 && (mdv (m.a * (py * 65536 - m.f) - m.b * (px * 65536 - m.e)) (detM m)).2 then
    nearP (mdv (m.d * (px * 65536 - m.e) - m.c * (py * 65536 - m.f)) (detM m)).1 (mdv (m.a * (py * 65536 - m.f) - m.b * (px * 65536 - m.e)) (detM m)).1 1073741823 else (0, 0, 2)
theorem mulI_bd {a b A B : Int} (hA : 0 ≤ A) (ha : -A ≤ a ∧ a ≤ A) (hb : -B ≤ b ∧ b ≤ B) : -(A * B) ≤ a * b ∧ a * b ≤ A * B := by
  have h1 : a.natAbs ≤ A.natAbs := by omega
  have h2 : b.natAbs ≤ B.natAbs := by omega
  have h3 : (a * b).natAbs ≤ A.natAbs * B.natAbs := by rw [Int.natAbs_mul]; exact Nat.mul_le_mul h1 h2
  have h4 : 0 ≤ B := by omega
  have h5 : ((A.natAbs * B.natAbs : Nat) : Int) = A * B := by rw [Int.natCast_mul, Int.natAbs_of_nonneg hA, Int.natAbs_of_nonneg h4]
  omega
theorem det_bd {m : Mt} (h : mtB m = true) : -4611686018427387904 ≤ detM m ∧ detM m ≤ 4611686018427387904 := by
  obtain ⟨f1, f2, f3, f4, _, _⟩ := mtB_fix h
  have p1 := mul_fix f1 f4
  have p2 := mul_fix f2 f3
  unfold detM
  omega
set_option maxRecDepth 100000 in
set_option maxHeartbeats 1000000 in
theorem det_any (m : Mt) (w : World) (h : mtB m = true) : Calls Try.prog 92 #[mtv m] w fun e w' => e = .returned (.int .i64 (detM m)) ∧ Below w.heap.size w w' := by
  obtain ⟨f1, f2, f3, f4, _, _⟩ := mtB_fix h
  have p1 := mul_fix f1 f4
  have p2 := mul_fix f2 f3
  unfold detM mtv
  have e1 : IntKind.i64.wrap (m.a * m.d) = m.a * m.d := IntWalk.i64_in _ (by omega)
  have e2 : IntKind.i64.wrap (m.b * m.c) = m.b * m.c := IntWalk.i64_in _ (by omega)
  have e3 : IntKind.i64.wrap (m.a * m.d - m.b * m.c) = m.a * m.d - m.b * m.c := IntWalk.i64_in _ (by omega)
  clear f1 f2 f3 f4 p1 p2 h
  go_enter Try.func92, Try.ntmps92
  go_wp2
  go_ret
  exact ⟨rfl, bal (Below.refl _ _) _⟩
set_option maxRecDepth 100000 in
set_option maxHeartbeats 1000000 in
theorem matNear_big (x y : Int) (w : World) : Calls Try.prog 91 #[.int .i64 x, .int .i64 y, .int .i64 1073741823] w fun e w' => e = .returned (vP (nearP x y 1073741823)) ∧ w = w' := by
  obtain ⟨R, hR⟩ : ∃ R, nearP x y 1073741823 = R := ⟨_, rfl⟩
  have HR := Lib.hid hR
  rw [hR]
  clear hR
  go_enter Try.func91, Try.ntmps91
  go_wp2
  all_goals
    go_ret3
    refine ⟨?_, rfl⟩
    rw [← HR.out]
    unfold nearP
    split
    · first | rfl | (exfalso; simp_all; done) | (exfalso; simp_all; omega) | (exfalso; omega)
    · first | rfl | (exfalso; simp_all; done) | (exfalso; simp_all; omega) | (exfalso; omega)
set_option maxRecDepth 100000 in
set_option maxHeartbeats 4000000 in
theorem matBack_any (m : Mt) (px py : Int) (w : World) : Calls Try.prog 46 #[mtv m, .int .i64 px, .int .i64 py] w fun e w' => e = .returned (vP (backM m px py)) ∧ Below w.heap.size w w' := by
  obtain ⟨w0, hw0⟩ : ∃ w0 : World, w0 = w.alloc (.cells (mtC m).toArray 25) := ⟨_, rfl⟩
  have hB0 : Below w.heap.size w w0 := by rw [hw0]; exact bal (Below.refl _ _) _
  have hA : BC w0 w.heap.size (mtC m) := by rw [hw0]; exact BC.new (mtC m) 25 rfl
  have HM := Lib.hid fun W => matMay_any m W
  have HN := Lib.hid fun W => matNear_any px py 8191 W (by omega)
  have HD := Lib.hid fun (h : mtB m = true) W => det_any m W h
  unfold mtv at HM HD ⊢
  unfold vP at HN
  unfold mtC at hw0
  obtain ⟨R, hR⟩ : ∃ R, backM m px py = R := ⟨_, rfl⟩
  have HR := Lib.hid hR
  rw [hR]
  clear hR
  have a0 := hA.c 0 _ rfl
  have a1 := hA.c 1 _ rfl
  have a2 := hA.c 2 _ rfl
  have a3 := hA.c 3 _ rfl
  have a4 := hA.c 4 _ rfl
  have a5 := hA.c 5 _ rfl
  go_enter Try.func46, Try.ntmps46
  go_upto_region 1 with (fail)
  rw [← hw0]
  clear hw0
  go_wp2_with fail
  refine (HM.out _).mono ?_; rintro e w1 ⟨rfl, hb1⟩
  have B1 := btr hB0 hb1
  have hA1 := hA.below hb1
  clear a0 a1 a2 a3 a4 a5 hb1 hA hB0
  cases hm : mtB m
  · have HR2 := Lib.hid (show R = (0, 0, 1) by rw [← HR.out]; unfold backM; rw [hm]; simp)
    go_wp2_with fail
    go_ret3
    rw [HR2.out]
    exact ⟨rfl, B1⟩
  · go_wp2_with fail
    refine (HN.out _).mono ?_; rintro e w' ⟨rfl, rfl⟩
    by_cases hn : px < -8191 ∨ px > 8191 ∨ py < -8191 ∨ py > 8191
    · have hn2 : nearP px py 8191 = (0, 0, 2) := by unfold nearP; rw [if_pos hn]
      have HR2 := Lib.hid (show R = (0, 0, 1) by rw [← HR.out]; unfold backM; rw [hm, hn2]; simp)
      rw [hn2]
      go_wp2_with fail
      go_ret3
      rw [HR2.out]
      exact ⟨rfl, B1⟩
    · have hn2 : nearP px py 8191 = (px, py, 0) := by unfold nearP; rw [if_neg hn]
      have HR3 : Hid (R = if detM m = 0 then (0, 0, 14) else if (mdv (m.d * (px * 65536 - m.e) - m.c * (py * 65536 - m.f)) (detM m)).2 && (mdv (m.a * (py * 65536 - m.f) - m.b * (px * 65536 - m.e)) (detM m)).2 then
        nearP (mdv (m.d * (px * 65536 - m.e) - m.c * (py * 65536 - m.f)) (detM m)).1 (mdv (m.a * (py * 65536 - m.f) - m.b * (px * 65536 - m.e)) (detM m)).1 1073741823 else (0, 0, 2)) :=
        Lib.hid (by rw [← HR.out]; unfold backM; rw [hm, hn2, if_neg (by simp), if_neg (by simp)])
      rw [hn2]
      have a0 := hA1.c 0 _ rfl
      have a1 := hA1.c 1 _ rfl
      have a2 := hA1.c 2 _ rfl
      have a3 := hA1.c 3 _ rfl
      have a4 := hA1.c 4 _ rfl
      have a5 := hA1.c 5 _ rfl
      have hdb := det_bd hm
      obtain ⟨f1, f2, f3, f4, f5, f6⟩ := mtB_fix hm
      rw [fixB_iff] at f1 f2 f3 f4 f5 f6
      obtain ⟨D, hD⟩ : ∃ D, detM m = D := ⟨_, rfl⟩
      have HDm := Lib.hid (HD.out hm)
      rw [hD] at HDm HR3 hdb
      obtain ⟨p, hp⟩ : ∃ p, px * 65536 - m.e = p := ⟨_, rfl⟩
      obtain ⟨q, hq⟩ : ∃ q, py * 65536 - m.f = q := ⟨_, rfl⟩
      rw [hp, hq] at HR3
      have hp2 : -1610612736 ≤ p ∧ p ≤ 1610612736 := by omega
      have hq2 : -1610612736 ≤ q ∧ q ≤ 1610612736 := by omega
      have g1 := mulI_bd (a := m.d) (b := p) (A := 1073741823) (B := 1610612736) (by omega) (by omega) hp2
      have g2 := mulI_bd (a := m.c) (b := q) (A := 1073741823) (B := 1610612736) (by omega) (by omega) hq2
      have g3 := mulI_bd (a := m.a) (b := q) (A := 1073741823) (B := 1610612736) (by omega) (by omega) hq2
      have g4 := mulI_bd (a := m.b) (b := p) (A := 1073741823) (B := 1610612736) (by omega) (by omega) hp2
      have e1 : IntKind.i64.wrap (m.d * p) = m.d * p := IntWalk.i64_in _ (by omega)
      have e2 : IntKind.i64.wrap (m.c * q) = m.c * q := IntWalk.i64_in _ (by omega)
      have e3 : IntKind.i64.wrap (m.a * q) = m.a * q := IntWalk.i64_in _ (by omega)
      have e4 : IntKind.i64.wrap (m.b * p) = m.b * p := IntWalk.i64_in _ (by omega)
      have e5 : IntKind.i64.wrap (m.d * p - m.c * q) = m.d * p - m.c * q := IntWalk.i64_in _ (by omega)
      have e6 : IntKind.i64.wrap (m.a * q - m.b * p) = m.a * q - m.b * p := IntWalk.i64_in _ (by omega)
      have e7 : IntKind.i64.wrap (px * 65536) = px * 65536 := IntWalk.i64_in _ (by omega)
      have e8 : IntKind.i64.wrap (py * 65536) = py * 65536 := IntWalk.i64_in _ (by omega)
      have e9 : IntKind.i64.wrap (px * 65536 - m.e) = p := by rw [← hp]; exact IntWalk.i64_in _ (by omega)
      have e10 : IntKind.i64.wrap (py * 65536 - m.f) = q := by rw [← hq]; exact IntWalk.i64_in _ (by omega)
      obtain ⟨⟨u, uo⟩, hU⟩ : ∃ U, mdv (m.d * p - m.c * q) D = U := ⟨_, rfl⟩
      obtain ⟨⟨v, vo⟩, hV⟩ : ∃ V, mdv (m.a * q - m.b * p) D = V := ⟨_, rfl⟩
      rw [hU, hV] at HR3
      have HU := Lib.hid fun W => mulDiv_any (m.d * p - m.c * q) D (u, uo) W (by omega) hdb hU
      have HV := Lib.hid fun W => mulDiv_any (m.a * q - m.b * p) D (v, vo) W (by omega) hdb hV
      clear hU hV g1 g2 g3 g4 hp2 hq2 hp hq hD hn hn2 hm HR
      go_wp2_with fail
      refine (HDm.out _).mono ?_; rintro e w2 ⟨rfl, hb2⟩
      have B2 := btr B1 hb2
      have hA2 := hA1.below hb2
      clear a0 a1 a2 a3 a4 a5 hA1 hb2 B1
      have a0 := hA2.c 0 _ rfl
      have a1 := hA2.c 1 _ rfl
      have a2 := hA2.c 2 _ rfl
      have a3 := hA2.c 3 _ rfl
      have a4 := hA2.c 4 _ rfl
      have a5 := hA2.c 5 _ rfl
      by_cases hD0 : D = 0
      · have HR2 := Lib.hid (show R = (0, 0, 14) by rw [HR3.out]; simp [hD0])
        subst hD0
        go_wp2_with fail
        go_ret3
        rw [HR2.out]
        exact ⟨rfl, B2⟩
      · have hD1 : (D == 0) = false := by simp [hD0]
        have HR4 := Lib.hid (show R = if uo && vo then nearP u v 1073741823 else (0, 0, 2) by rw [HR3.out]; simp [hD0])
        have HNN := Lib.hid fun W => matNear_big u v W
        unfold vP at HNN
        clear HR3 hD0
        go_wp2_with fail
        go_quiet (fail)
        go_wp2_with fail
        refine (HU.out _).mono ?_; rintro e w3 ⟨rfl, hb3⟩
        have hbq := btr (bdrewN (Below.refl _ w2) nq) hb3
        have B3 := btr B2 hbq
        have hA3 := hA2.below hbq
        clear a0 a1 a2 a3 a4 a5 hA2 hb3 B2
        have a0 := hA3.c 0 _ rfl
        have a1 := hA3.c 1 _ rfl
        have a2 := hA3.c 2 _ rfl
        have a3 := hA3.c 3 _ rfl
        have a4 := hA3.c 4 _ rfl
        have a5 := hA3.c 5 _ rfl
        go_wp2_with fail
        refine (HV.out _).mono ?_; rintro e w4 ⟨rfl, hb4⟩
        have B4 := btr B3 hb4
        clear a0 a1 a2 a3 a4 a5 hA3 hb4 B3 hbq
        cases uo
        · have HR2 := Lib.hid (show R = (0, 0, 2) by rw [HR4.out]; simp)
          go_wp2_with fail
          go_ret3
          rw [HR2.out]
          exact ⟨rfl, B4⟩
        · cases vo
          · have HR2 := Lib.hid (show R = (0, 0, 2) by rw [HR4.out]; simp)
            go_wp2_with fail
            go_ret3
            rw [HR2.out]
            exact ⟨rfl, B4⟩
          · have HR2 := Lib.hid (show R = nearP u v 1073741823 by rw [HR4.out]; simp)
            go_wp2_with fail
            refine (HNN.out _).mono ?_; rintro e w5 ⟨rfl, rfl⟩
            go_wp2_with fail
            go_ret3
            rw [HR2.out]
            exact ⟨rfl, B4⟩
end Go.Proofs.Ytaadajadeemndaa
