/- StateShifts, plainly. -/
import Derived.Test.YtdfkbbcoolgfiaaGreatMS9
import Derived.Test.YtdfkbbcoolgfiaaGreatMWide
namespace Go.Proofs.YtdfkbbcoolgfiaaGreat

theorem rnd_mul {p h q n : Int} (hp : 0 < p) (hh : 0 < h) (hn : n = q * p) : rndM p h n = q := by
  subst hn
  unfold rndM
  rw [Int.mul_ediv_cancel _ (by omega), if_neg (by omega)]
theorem fixB_of {v : Int} (h : -1073741823 ≤ v ∧ v ≤ 1073741823) : fixB v = true := fixB_iff.2 h
/-- New's matrix, moved. -/
def shM (a b : Int) : Mt := ⟨1048576, 0, 0, -1048576, 16 * a, 20971520 - 16 * b⟩
theorem sh_mul (a b : Int) (ha : -2200000 ≤ a ∧ a ≤ 2200000) (hb : -2200000 ≤ b ∧ b ≤ 2200000) : mulM ⟨65536, 0, 0, 65536, a, b⟩ (devM 20) = (shM a b, 0) := by
  unfold mulM
  by_cases h0 : a = 0 ∧ b = 0
  · obtain ⟨rfl, rfl⟩ := h0
    rfl
  · have h1 : eqM ⟨65536, 0, 0, 65536, a, b⟩ oneM = false := by
      cases h : eqM ⟨65536, 0, 0, 65536, a, b⟩ oneM
      · rfl
      · rw [eqM_iff] at h
        simp only [oneM, Mt.mk.injEq] at h
        exact absurd ⟨h.2.2.2.2.1, h.2.2.2.2.2⟩ h0
    have h2 : eqM (devM 20) oneM = false := rfl
    have h3 : prodM ⟨65536, 0, 0, 65536, a, b⟩ (devM 20) = shM a b := by
      unfold prodM shM devM
      simp only [Mt.mk.injEq]
      refine ⟨rnd_mul (by omega) (by omega) (by omega), rnd_mul (by omega) (by omega) (by omega), rnd_mul (by omega) (by omega) (by omega), rnd_mul (by omega) (by omega) (by omega), ?_, ?_⟩
      · rw [rnd_mul (q := 16 * a) (by omega) (by omega) (by omega)]; omega
      · rw [rnd_mul (q := -16 * b) (by omega) (by omega) (by omega)]; omega
    have h4 : mtB (shM a b) = true := by
      unfold mtB shM
      simp only [Bool.and_eq_true]
      refine ⟨⟨⟨⟨⟨fixB_of (by omega), fixB_of (by omega)⟩, fixB_of (by omega)⟩, fixB_of (by omega)⟩, fixB_of (by omega)⟩, fixB_of (by omega)⟩
    rw [h1, h2, h3, h4]
    rfl
theorem sh_may (a b : Int) (ha : -2200000 ≤ a ∧ a ≤ 2200000) (hb : -2200000 ≤ b ∧ b ≤ 2200000) : mayS { newS 20 with m := shM a b } = true := by
  have h4 : mtB (shM a b) = true := by
    unfold mtB shM
    simp only [Bool.and_eq_true]
    refine ⟨⟨⟨⟨⟨fixB_of (by omega), fixB_of (by omega)⟩, fixB_of (by omega)⟩, fixB_of (by omega)⟩, fixB_of (by omega)⟩, fixB_of (by omega)⟩
  show (mtB (shM a b) && mayB [] && clsB [] && dashB [] && fontB obZero && restB (newS 20)) = true
  rw [h4]
  kernel_rfl
theorem new_shM : newS 20 = { newS 20 with m := shM 0 0 } := rfl
theorem sh_point (a b c d : Int) (ha : -2200000 ≤ a ∧ a ≤ 2200000) (hb : -2200000 ≤ b ∧ b ≤ 2200000) (hc : -2200000 ≤ c ∧ c ≤ 2200000) (hd : -2200000 ≤ d ∧ d ≤ 2200000) :
    pointM (shM a b) c d = nearP (rndM 4294967296 2147483648 (1048576 * (a + c))) (rndM 4294967296 2147483648 (1374389534720 - 1048576 * (b + d))) 8191 := by
  have h4 : mtB (shM a b) = true := by
    unfold mtB shM
    simp only [Bool.and_eq_true]
    refine ⟨⟨⟨⟨⟨fixB_of (by omega), fixB_of (by omega)⟩, fixB_of (by omega)⟩, fixB_of (by omega)⟩, fixB_of (by omega)⟩, fixB_of (by omega)⟩
  unfold pointM
  rw [h4, fixB_of (v := c) (by omega), fixB_of (v := d) (by omega)]
  simp only [Bool.and_self, if_true]
  unfold shM
  simp only
  congr 2 <;> omega
theorem sh_to (a b c d : Int) (ha : -1048576 ≤ a ∧ a ≤ 1048576) (hb : -1048576 ≤ b ∧ b ≤ 1048576) (hc : -1048576 ≤ c ∧ c ≤ 1048576) (hd : -1048576 ≤ d ∧ d ≤ 1048576) :
    (toS (fun u v => startL [] u v) { newS 20 with m := shM a b } c d false).2 = (toS (fun u v => startL [] u v) (newS 20) (a + c) (b + d) false).2 ∧
    (toS (fun u v => startL [] u v) { newS 20 with m := shM a b } c d false).1.p = (toS (fun u v => startL [] u v) (newS 20) (a + c) (b + d) false).1.p := by
  have e1 : pointS (shM a b) [] c d false = pointM (shM a b) c d := rfl
  have e2 : pointS (devM 20) [] (a + c) (b + d) false = pointM (shM 0 0) (a + c) (b + d) := rfl
  have m1 := sh_may a b (by omega) (by omega)
  have m2 : mayS (newS 20) = true := sh_may 0 0 (by omega) (by omega)
  have p1 := sh_point a b c d (by omega) (by omega) (by omega) (by omega)
  have p2 := sh_point 0 0 (a + c) (b + d) (by omega) (by omega) (by omega) (by omega)
  have p3 : pointM (shM a b) c d = pointM (shM 0 0) (a + c) (b + d) := by rw [p1, p2, Int.zero_add, Int.zero_add]
  have f1 : [c, d].all fixB = true := by simp [fixB_of (v := c) (by omega), fixB_of (v := d) (by omega)]
  have f2 : [a + c, b + d].all fixB = true := by simp [fixB_of (v := a + c) (by omega), fixB_of (v := b + d) (by omega)]
  unfold toS
  rw [m1, m2, f1, f2]
  have e1' : pointS { newS 20 with m := shM a b }.m { newS 20 with m := shM a b }.p c d false = pointM (shM 0 0) (a + c) (b + d) := by rw [← p3]; rfl
  have e2' : pointS (newS 20).m (newS 20).p (a + c) (b + d) false = pointM (shM 0 0) (a + c) (b + d) := rfl
  rw [e1', e2']
  generalize pointM (shM 0 0) (a + c) (b + d) = q
  simp only [Bool.and_self, Bool.true_eq_false, if_false]
  split
  · exact ⟨rfl, rfl⟩
  · split <;> exact ⟨rfl, rfl⟩
end Go.Proofs.YtdfkbbcoolgfiaaGreat

namespace Go.Proofs.YtdfkbbcoolgfiaaGreat

/-- Where a state is, in users' units. -/
def hereS (x : St) : Int × Int × Int :=
  if mayS x = false then (0, 0, 1) else if (baseL x.p).2.2 ≠ 0 then (0, 0, (baseL x.p).2.2) else backM x.m (baseL x.p).1 (baseL x.p).2.1
theorem rnd_near (n : Int) : -2147483648 ≤ 4294967296 * rndM 4294967296 2147483648 n - n ∧ 4294967296 * rndM 4294967296 2147483648 n - n ≤ 2147483648 := by
  unfold rndM
  split <;> omega
theorem dev_may (h : Int) (h1 : 1 ≤ h) (h2 : h ≤ 64) : mtB (devM h) = true := by
  unfold mtB devM
  simp only [Bool.and_eq_true]
  exact ⟨⟨⟨⟨⟨fixB_of (by omega), fixB_of (by omega)⟩, fixB_of (by omega)⟩, fixB_of (by omega)⟩, fixB_of (by omega)⟩, fixB_of (by omega)⟩
theorem new_may (h : Int) (l : List Sg) (h1 : 1 ≤ h) (h2 : h ≤ 64) (hl : mayB l = true) : mayS { newS h with p := l } = true := by
  show (mtB (devM h) && mayB l && clsB [] && dashB [] && fontB obZero && restB (newS 1)) = true
  rw [dev_may h h1 h2, hl]
  kernel_rfl
theorem co_of {v : Int} (h : -8191 ≤ v ∧ v ≤ 8191) : co v = true := co_iff'.2 h
theorem one_may (px py : Int) (h1 : -8191 ≤ px ∧ px ≤ 8191) (h2 : -8191 ≤ py ∧ py ≤ 8191) : mayB [⟨1, px, py, 0, 0⟩] = true := by
  simp [mayB, mayFrom, rightB, nearB, co]
  omega
theorem one_start (px py : Int) (h1 : -8191 ≤ px ∧ px ≤ 8191) (h2 : -8191 ≤ py ∧ py ≤ 8191) : startL [] px py = ([⟨1, px, py, 0, 0⟩], 0) := by
  have e1 := co_of h1
  have e2 := co_of h2
  have h0 : mayB [] = true := rfl
  unfold startL
  rw [h0, show nearB [px, py] = true by simp [nearB, e1, e2]]
  simp [lastK, longL]
theorem one_base (px py : Int) (h1 : -8191 ≤ px ∧ px ≤ 8191) (h2 : -8191 ≤ py ∧ py ≤ 8191) : baseL [⟨1, px, py, 0, 0⟩] = (px, py, 0) := by
  unfold baseL ptL
  rw [one_may px py h1 h2]
  simp [lastK, lastX, lastY]
/-- A point of a new state. -/
theorem dev_point (h u v : Int) (h1 : 1 ≤ h) (h2 : h ≤ 64) (hu : -40000000 ≤ u ∧ u ≤ 40000000) (hv : -40000000 ≤ v ∧ v ≤ 40000000) :
    pointM (devM h) u v = nearP (rndM 4294967296 2147483648 (1048576 * u)) (rndM 4294967296 2147483648 (68719476736 * h - 1048576 * v)) 8191 := by
  unfold pointM
  rw [dev_may h h1 h2, fixB_of (v := u) (by omega), fixB_of (v := v) (by omega)]
  simp only [Bool.and_self, if_true]
  unfold devM
  simp only
  congr 2 <;> omega
theorem dev_vector (h u v : Int) (h1 : 1 ≤ h) (h2 : h ≤ 64) (hu : -40000000 ≤ u ∧ u ≤ 40000000) (hv : -40000000 ≤ v ∧ v ≤ 40000000) :
    vectorM (devM h) u v = nearP (rndM 4294967296 2147483648 (1048576 * u)) (rndM 4294967296 2147483648 (-1048576 * v)) 16382 := by
  unfold vectorM
  rw [dev_may h h1 h2, fixB_of (v := u) (by omega), fixB_of (v := v) (by omega)]
  simp only [Bool.and_self, if_true]
  unfold devM
  simp only
  congr 2 <;> omega
theorem near_in {x y k : Int} (h1 : -k ≤ x ∧ x ≤ k) (h2 : -k ≤ y ∧ y ≤ k) : nearP x y k = (x, y, 0) := by
  unfold nearP; rw [if_neg (by omega)]
/-- A new state that has moved. -/
theorem new_moved (h u v : Int) (h1 : 1 ≤ h) (h2 : h ≤ 64) (hu : -20000000 ≤ u ∧ u ≤ 20000000) (hv : -20000000 ≤ v ∧ v ≤ 20000000) :
    ∃ px py, px = rndM 4294967296 2147483648 (1048576 * u) ∧ py = rndM 4294967296 2147483648 (68719476736 * h - 1048576 * v) ∧ (-8191 ≤ px ∧ px ≤ 8191) ∧ (-8191 ≤ py ∧ py ≤ 8191) ∧
      toS (fun a b => startL (newS h).p a b) (newS h) u v false = ({ newS h with p := [⟨1, px, py, 0, 0⟩] }, 0) := by
  obtain ⟨px, hpx⟩ : ∃ px, px = rndM 4294967296 2147483648 (1048576 * u) := ⟨_, rfl⟩
  obtain ⟨py, hpy⟩ : ∃ py, py = rndM 4294967296 2147483648 (68719476736 * h - 1048576 * v) := ⟨_, rfl⟩
  have r1 := rnd_near (1048576 * u)
  have r2 := rnd_near (68719476736 * h - 1048576 * v)
  rw [← hpx] at r1
  rw [← hpy] at r2
  have b1 : -8191 ≤ px ∧ px ≤ 8191 := by omega
  have b2 : -8191 ≤ py ∧ py ≤ 8191 := by omega
  refine ⟨px, py, hpx, hpy, b1, b2, ?_⟩
  have m1 : mayS (newS h) = true := new_may h [] h1 h2 rfl
  have f1 : [u, v].all fixB = true := by simp [fixB_of (v := u) (by omega), fixB_of (v := v) (by omega)]
  have e1 : pointS (newS h).m (newS h).p u v false = (px, py, 0) := by
    show pointM (devM h) u v = _
    rw [dev_point h u v h1 h2 (by omega) (by omega), ← hpx, ← hpy, near_in b1 b2]
  have e2 : startL (newS h).p px py = ([⟨1, px, py, 0, 0⟩], 0) := one_start px py b1 b2
  unfold toS
  rw [m1, f1, e1]
  simp [e2]
theorem mdv_exact (z : Int) (hz : -8191 * 2 ≤ z ∧ z ≤ 8191 * 2) : mdv (68719476736 * z) (-1099511627776) = (-(4096 * z), true) := by
  have hn : (68719476736 * z).natAbs * 65536 = z.natAbs * 4503599627370496 := by omega
  have hd : (-1099511627776 : Int).natAbs = 1099511627776 := rfl
  unfold mdv
  rw [hn, hd, if_neg (by omega)]
  have hq : z.natAbs * 4503599627370496 / 1099511627776 = z.natAbs * 4096 := by omega
  have hr : z.natAbs * 4503599627370496 % 1099511627776 = 0 := by omega
  rw [hq, hr]
  have hu : upB (z.natAbs * 4096) 0 1099511627776 = false := by simp [upB]
  rw [hu]
  simp only [Bool.false_eq_true, if_false]
  unfold sgnQ
  by_cases h : z < 0
  · have e : (decide (68719476736 * z < 0) != decide ((-1099511627776 : Int) < 0)) = false := by
      rw [decide_eq_true (show 68719476736 * z < 0 by omega)]; rfl
    rw [e, if_neg (by simp), if_pos (by omega)]
    simp only [Prod.mk.injEq, and_true]
    omega
  · have e : (decide (68719476736 * z < 0) != decide ((-1099511627776 : Int) < 0)) = true := by
      rw [decide_eq_false (show ¬ 68719476736 * z < 0 by omega)]; rfl
    rw [e, if_pos rfl, if_pos (by omega)]
    simp only [Prod.mk.injEq, and_true]
    omega
theorem dev_back (h px py : Int) (h1 : 1 ≤ h) (h2 : h ≤ 64) (b1 : -8191 ≤ px ∧ px ≤ 8191) (b2 : -8191 ≤ py ∧ py ≤ 8191) : backM (devM h) px py = (4096 * px, -(4096 * (py - 16 * h)), 0) := by
  have hd : detM (devM h) = -1099511627776 := by unfold detM devM; rfl
  unfold backM
  rw [dev_may h h1 h2, near_in b1 b2, hd, if_neg (by simp), if_neg (by simp), if_neg (by decide)]
  have e1 : (devM h).d * (px * 65536 - (devM h).e) - (devM h).c * (py * 65536 - (devM h).f) = 68719476736 * -px := by unfold devM; simp only; omega
  have e2 : (devM h).a * (py * 65536 - (devM h).f) - (devM h).b * (px * 65536 - (devM h).e) = 68719476736 * (py - 16 * h) := by unfold devM; simp only; omega
  rw [e1, e2, mdv_exact _ (by omega), mdv_exact _ (by omega)]
  simp only [Bool.and_self, if_true]
  rw [near_in (by omega) (by omega)]
  congr 1
  omega
/-- All that StateThere says. -/
theorem th_all (h a b c d p q : Int) (h1 : 1 ≤ h) (h2 : h ≤ 64) (ha : -2200000 ≤ a ∧ a ≤ 2200000) (hb : -2200000 ≤ b ∧ b ≤ 2200000) (gx gy ex ey : Int) (hc : c = 65536 * gx) (hd : d = 65536 * gy) (hp : p = 65536 * ex) (hq : q = 65536 * ey)
    (k1 : -200 ≤ gx ∧ gx ≤ 200) (k2 : -200 ≤ gy ∧ gy ≤ 200) (k3 : -200 ≤ ex ∧ ex ≤ 200) (k4 : -200 ≤ ey ∧ ey ≤ 200) :
    ∃ x t m Y u v, newS h = x ∧ toS (fun a b => startL x.p a b) x a b false = (t, 0) ∧ hereS t = (u, v, 0) ∧ (-2049 ≤ u - a ∧ u - a ≤ 2049) ∧ (-2049 ≤ v - b ∧ v - b ≤ 2049) ∧ toS (fun a b => startL x.p a b) x c d false = (m, 0) ∧
      toS (fun a b => onL m.p ⟨2, a, b, 0, 0⟩) m p q true = Y ∧ toS (fun a b => onL m.p ⟨2, a, b, 0, 0⟩) m (c + p) (d + q) false = Y := by
  obtain ⟨px, py, hpx, hpy, b1, b2, ht⟩ := new_moved h a b h1 h2 (by omega) (by omega)
  obtain ⟨sx, sy, hsx, hsy, s1, s2, hm⟩ := new_moved h c d h1 h2 (by omega) (by omega)
  have r1 := rnd_near (1048576 * a)
  have r2 := rnd_near (68719476736 * h - 1048576 * b)
  rw [← hpx] at r1
  rw [← hpy] at r2
  have g1 : sx = 16 * gx := by rw [hsx]; exact rnd_mul (by omega) (by omega) (by omega)
  have g2 : sy = 16 * h - 16 * gy := by rw [hsy]; exact rnd_mul (by omega) (by omega) (by omega)
  refine ⟨newS h, _, _, _, 4096 * px, -(4096 * (py - 16 * h)), rfl, ht, ?_, by omega, by omega, hm, rfl, ?_⟩
  · unfold hereS
    have e1 : mayS { newS h with p := [⟨1, px, py, 0, 0⟩] } = true := new_may h _ h1 h2 (one_may px py b1 b2)
    have e2 : baseL ({ newS h with p := [⟨1, px, py, 0, 0⟩] } : St).p = (px, py, 0) := one_base px py b1 b2
    rw [e1, e2]
    simp only [Bool.true_eq_false, if_false, ne_eq, not_true_eq_false]
    exact dev_back h px py h1 h2 b1 b2
  · have e1 : pointS ({ newS h with p := [⟨1, sx, sy, 0, 0⟩] } : St).m ({ newS h with p := [⟨1, sx, sy, 0, 0⟩] } : St).p (c + p) (d + q) false = (16 * gx + 16 * ex, 16 * h - 16 * gy - 16 * ey, 0) := by
      show pointM (devM h) (c + p) (d + q) = _
      rw [dev_point h _ _ h1 h2 (by omega) (by omega), rnd_mul (q := 16 * gx + 16 * ex) (by omega) (by omega) (by omega), rnd_mul (q := 16 * h - 16 * gy - 16 * ey) (by omega) (by omega) (by omega), near_in (by omega) (by omega)]
    have e2 : pointS ({ newS h with p := [⟨1, sx, sy, 0, 0⟩] } : St).m ({ newS h with p := [⟨1, sx, sy, 0, 0⟩] } : St).p p q true = (16 * gx + 16 * ex, 16 * h - 16 * gy - 16 * ey, 0) := by
      have v1 : vectorM (devM h) p q = (16 * ex, -(16 * ey), 0) := by
        rw [dev_vector h _ _ h1 h2 (by omega) (by omega), rnd_mul (q := 16 * ex) (by omega) (by omega) (by omega), rnd_mul (q := -(16 * ey)) (by omega) (by omega) (by omega), near_in (by omega) (by omega)]
      have v2 : baseL [⟨1, sx, sy, 0, 0⟩] = (sx, sy, 0) := one_base sx sy s1 s2
      have i1 : inB (16 * ex + sx) (-8191) 8191 = true := by simp [inB]; omega
      have i2 : inB (-(16 * ey) + sy) (-8191) 8191 = true := by simp [inB]; omega
      show pointS (devM h) [⟨1, sx, sy, 0, 0⟩] p q true = _
      unfold pointS
      rw [v1, v2]
      simp only [i1, i2, ne_eq, not_true_eq_false, if_false, if_true, Bool.and_self]
      simp only [Prod.mk.injEq, and_true]
      omega
    have f1 : [c + p, d + q].all fixB = true := by simp [fixB_of (v := c + p) (by omega), fixB_of (v := d + q) (by omega)]
    have f2 : [p, q].all fixB = true := by simp [fixB_of (v := p) (by omega), fixB_of (v := q) (by omega)]
    unfold toS
    rw [f1, f2, e1, e2]
end Go.Proofs.YtdfkbbcoolgfiaaGreat

namespace Go.Proofs.YtdfkbbcoolgfiaaGreat
open Go.RowKit Go.BigFrame

set_option maxRecDepth 100000 in
set_option maxHeartbeats 4000000 in
theorem stHere_any (x : St) (P C D : Value) (R : Int × Int × Int) (w : World) (h : StAt w x P C D) (hR : hereS x = R) : Calls Tryz.prog 47 #[.agg (stC x P C D).toArray] w
    fun r w' => r = .returned (vP R) ∧ Below w.heap.size w w' := by
  obtain ⟨w0, hw0⟩ : ∃ w0 : World, w0 = w.alloc (.cells (stC x P C D).toArray 32) := ⟨_, rfl⟩
  have hB0 : Below w.heap.size w w0 := by rw [hw0]; exact bal (Below.refl _ _) _
  have hA : BC w0 w.heap.size (stC x P C D) := by rw [hw0]; exact BC.new (stC x P C D) 32 rfl
  have h0 := h.below hB0
  have HM := Lib.hid fun W (hb : Below w0.heap.size w0 W) => stMay_any x P C D W (h0.below hb)
  have HB := Lib.hid fun (hf : stFew x) W (hb : Below w0.heap.size w0 W) => base_any x P C D W (h0.below hb) hf
  have HA := Lib.hid hA
  have HR := Lib.hid hR
  unfold vP at HB
  clear hA h0 h hR
  go_enter Tryz.func47, Tryz.ntmps47
  go_upto_region 1 with (fail)
  rw [← hw0]
  clear hw0
  go_wp2_with (first
    | (refine wpList_load_rec rfl _ _ rfl w.heap.size rfl _ 24 stateT HA.out rfl ?_)
    | fail)
  refine (HM.out _ (Below.refl _ _)).mono ?_; rintro e w1 ⟨rfl, hb1⟩
  have G1 := hb1
  have B1 := btr hB0 G1
  clear hb1
  cases hm : mayS x
  · have HR2 := Lib.hid (show R = (0, 0, 1) by rw [← HR.out]; unfold hereS; rw [hm]; simp)
    go_wp2_with fail
    go_ret3
    rw [HR2.out]
    exact ⟨rfl, B1⟩
  · have HBB := Lib.hid (HB.out (mayS_few hm))
    have A1 := HA.out.below G1
    obtain ⟨⟨bx, bv, be⟩, hbe⟩ : ∃ b, baseL x.p = b := ⟨_, rfl⟩
    have HR3 := Lib.hid (show R = if be ≠ 0 then (0, 0, be) else backM x.m bx bv by rw [← HR.out]; unfold hereS; rw [hm, hbe]; simp)
    have HK := Lib.hid fun W => matBack_any x.m bx bv W
    unfold mtv vP at HK
    rw [hbe] at HBB
    simp only at HBB
    clear hbe hm HR HB
    go_wp2_with (first
      | (refine wpList_load_rec rfl _ _ rfl w.heap.size rfl _ 24 stateT A1 rfl ?_)
      | fail)
    refine (HBB.out _ G1).mono ?_; rintro e w2 ⟨rfl, hb2⟩
    have G2 := btr G1 hb2
    have B2 := btr B1 hb2
    clear hb2 A1
    by_cases hbe : be = 0
    · subst hbe
      have HR2 := Lib.hid (show R = backM x.m bx bv by rw [HR3.out]; simp)
      have A2 := HA.out.below G2
      have c0 := A2.c 0 _ rfl
      have c1 := A2.c 1 _ rfl
      have c2 := A2.c 2 _ rfl
      have c3 := A2.c 3 _ rfl
      have c4 := A2.c 4 _ rfl
      have c5 := A2.c 5 _ rfl
      clear HR3 A2
      go_wp2_with fail
      refine (HK.out _).mono ?_; rintro e w3 ⟨rfl, hb3⟩
      go_wp2_with fail
      go_ret3
      rw [HR2.out]
      exact ⟨rfl, btr B2 hb3⟩
    · have HR2 := Lib.hid (show R = (0, 0, be) by rw [HR3.out]; simp [hbe])
      have he0 : (be == 0) = false := by simp [hbe]
      go_wp2_with fail
      go_ret3
      rw [HR2.out]
      exact ⟨rfl, B2⟩
end Go.Proofs.YtdfkbbcoolgfiaaGreat

namespace Go.Proofs.YtdfkbbcoolgfiaaGreat
open Go.RowKit Go.BigFrame

def knX : St := { newS 32 with p := [⟨1, 16, 496, 0, 0⟩] }
theorem kn_to : toS (fun u v => startL (newS 32).p u v) (newS 32) 65536 65536 false = (knX, 0) := by
  have h1 : mayS (newS 32) = true := by kernel_rfl
  have h2 : pointS (newS 32).m (newS 32).p 65536 65536 false = (16, 496, 0) := by kernel_rfl
  have h3 : startL (newS 32).p 16 496 = ([⟨1, 16, 496, 0, 0⟩], 0) := by kernel_rfl
  unfold toS
  rw [h1, h2]
  simp only [h3]
  rfl
theorem kn_may : mayS knX = true := by kernel_rfl
theorem wpList_load_rec_g {P : Program} {ops : Array Oper} {rest : List Oper} {op : Oper} {a : Act} {w : World} {Q : Exit → Act → World → Prop} (hgd : Region.wanted op (yielded ops a.tmps) = true) (t : TypeId) (x : Operand) (ho : op.op = .load t x) (g : Nat)
    (hx : a.eval x = .pointer (some ⟨g, 0, none⟩)) (C : List Value) (n : Nat) (hT : RecT P t n) (h : BC w g C) (hn : C.length = n)
    (hk : wpList P ops Q rest (a.put op.dst (.agg C.toArray)) w) : wpList P ops Q (op :: rest) a w := by
  obtain ⟨d, hu, hd, hi⟩ := hT
  exact wpList_step fun K hK => by
    rw [if_pos hgd]
    exact wp_load_mid t x ho g 0 hx C d h.range hu hd (by rw [hi, hn]) (hK _ _ hk)
/-- A new block into which a state is written whole. -/
theorem put_new {W : World} {vs : List Value} (hl : vs.length = 24) : ∃ W', W' = (W.alloc (.cells (stC zeroS (.slice none 0 0) (.slice none 0 0) (.slice none 0 0)).toArray 32)).setCells W.heap.size 0 vs ∧ BC W' W.heap.size vs ∧
    Below W.heap.size W W' ∧ BC (W.alloc (.cells (stC zeroS (.slice none 0 0) (.slice none 0 0) (.slice none 0 0)).toArray 32)) W.heap.size (stC zeroS (.slice none 0 0) (.slice none 0 0) (.slice none 0 0)) := by
  have h := BC.new (w := W) (g := W.heap.size) (stC zeroS (.slice none 0 0) (.slice none 0 0) (.slice none 0 0)) 32 rfl
  exact ⟨_, rfl, h.putAll vs (by rw [hl]; rfl), below_setCells (Nat.le_refl _) _ _ _ (bal (Below.refl _ _) _), h⟩
set_option maxRecDepth 100000 in
set_option maxHeartbeats 4000000 in
theorem known42_any (w : World) : Calls Tryz.prog 5 #[] w fun e w' => e = .returned (.bool true) ∧ Below w.heap.size w w' := by
  have HN := Lib.hid fun W => stNew_any 32 W (by omega) (by omega)
  obtain ⟨x, hx⟩ : ∃ x, newS 32 = x := ⟨_, rfl⟩
  obtain ⟨y, hto, hyp, hym⟩ : ∃ y, toS (fun u v => startL (newS 32).p u v) (newS 32) 65536 65536 false = (y, 0) ∧ y.p = [⟨1, 16, 496, 0, 0⟩] ∧ mayS y = true := ⟨knX, kn_to, rfl, kn_may⟩
  have hat : ∀ W, StAt W x (.slice none 0 0) (.slice none 0 0) (.slice none 0 0) := fun W => by rw [← hx]; exact ⟨PathV.nil, ClV.nil, IntsV.nil⟩
  rw [hx] at HN hto
  have HMv := Lib.hid fun W => stMove_any x (.slice none 0 0) (.slice none 0 0) (.slice none 0 0) 65536 65536 false _ W (hat W) hto
  clear hto hat hx
  go_enter Tryz.func5, Tryz.ntmps5
  go_wp2_with fail
  refine (HN.out _).mono ?_; rintro e w1 ⟨rfl, hb1⟩
  have hone1 : ∀ v ∈ stC x (.slice none 0 0) (.slice none 0 0) (.slice none 0 0), v.oneCell' = true := stC_one rfl rfl rfl
  obtain ⟨w2, hw2, A2, b2, Z2⟩ := put_new (W := w1) (vs := stC x (.slice none 0 0) (.slice none 0 0) (.slice none 0 0)) rfl
  have B2 := btr hb1 b2
  rw [zero_lit] at hw2 Z2
  have HW2 := Lib.hid hw2
  clear hw2
  go_wp2_with (first
    | (refine wpList_store_rec rfl _ _ _ rfl (w1.heap.size) (stC x (.slice none 0 0) (.slice none 0 0) (.slice none 0 0)) _ rfl rfl 24 stateT Z2 rfl rfl hone1 ?_; rw [← HW2.out])
    | (refine wpList_load_rec rfl _ _ rfl w1.heap.size rfl _ 24 stateT A2 rfl ?_)
    | fail)
  refine (HMv.out _).mono ?_; rintro e w3 ⟨P3, C3, D3, rfl, ho3, hb3⟩
  have B3 := btr B2 hb3
  have h3 := ho3.at
  have hone3 := h3.one
  have hp3 := ho3.p
  rw [hyp] at hp3
  obtain ⟨Ap, cp, rfl⟩ := own_form hp3
  have hs3 := own_sl hp3
  clear ho3 hb3 hp3
  simp only [List.length_cons, List.length_nil, Nat.zero_add] at hs3 h3 hone3 ⊢
  obtain ⟨w4, hw4, A4, b4, Z4⟩ := put_new (W := w3) (vs := stC y (.slice Ap 1 cp) C3 D3) rfl
  have B4 := btr B3 b4
  have h4 := h3.below b4
  have hs4 := hs3.below b4
  rw [zero_lit] at hw4 Z4
  obtain ⟨b, off, rfl, hbl, c0, c1, c2, c3, c4⟩ := hs4.sg 0 (by decide) (by decide)
  simp only [List.getElem_cons_zero, Nat.zero_mul, Nat.add_zero] at c0 c1 c2 c3 c4
  have c6 := A4.c 6 _ rfl
  have HM := Lib.hid fun W (hb : Below w4.heap.size w4 W) => stMay_any y (.slice (some ⟨b, off, none⟩) 1 cp) C3 D3 W (h4.below hb)
  rw [hym] at HM
  have HW4 := Lib.hid hw4
  clear hw4 h3 h4 hs3 hs4 b4 hyp hym
  go_wp2_with (first
    | (refine wpList_store_rec rfl _ _ _ rfl (w3.heap.size) (stC y (.slice (some ⟨b, off, none⟩) 1 cp) C3 D3) _ rfl rfl 24 stateT Z4 rfl rfl hone3 ?_; rw [← HW4.out])
    | (refine wpList_load_rec_g (by kernel_rfl) _ _ rfl w3.heap.size rfl _ 24 stateT A4 rfl ?_)
    | fail)
  refine (HM.out _ (Below.refl _ _)).mono ?_; rintro e w5 ⟨rfl, hb5⟩
  go_wp2_with fail
  go_ret
  exact ⟨rfl, btr B4 hb5⟩
end Go.Proofs.YtdfkbbcoolgfiaaGreat
