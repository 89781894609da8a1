/- StateThere, plainly. -/
import Derived.Test.YtaadajadeemndaaShP
import Derived.Test.YtaadajadeemndaaMWide
namespace Go.Proofs.Ytaadajadeemndaa

/-- Where a state is, in users' units. -/
def hereS (x : St) : Int × Int × Int :=
  if mayS x = false then (0, 0, 1) else if (baseL x.p).2.2 ≠ 0 then (0, 0, (baseL x.p).2.2) else backM x.m (baseL x.p).1 (baseL x.p).2.1
theorem rnd_near (n : Int) : -2147483648 ≤ 4294967296 * rndM 4294967296 2147483648 n - n ∧ 4294967296 * rndM 4294967296 2147483648 n - n ≤ 2147483648 := by
  unfold rndM
  split <;> omega
theorem dev_may (h : Int) (h1 : 1 ≤ h) (h2 : h ≤ 64) : mtB (devM h) = true := by
  unfold mtB devM
  simp only [Bool.and_eq_true]
  exact ⟨⟨⟨⟨⟨fixB_of (by omega), fixB_of (by omega)⟩, fixB_of (by omega)⟩, fixB_of (by omega)⟩, fixB_of (by omega)⟩, fixB_of (by omega)⟩
theorem new_may (h : Int) (l : List Sg) (h1 : 1 ≤ h) (h2 : h ≤ 64) (hl : mayB l = true) : mayS { newS h with p := l } = true := by
  show (mtB (devM h) && mayB l && clsB [] && dashB [] && fontB obZero && restB (newS 1)) = true
  rw [dev_may h h1 h2, hl]
  kernel_rfl
theorem co_of {v : Int} (h : -8191 ≤ v ∧ v ≤ 8191) : co v = true := co_iff'.2 h
theorem one_may (px py : Int) (h1 : -8191 ≤ px ∧ px ≤ 8191) (h2 : -8191 ≤ py ∧ py ≤ 8191) : mayB [⟨1, px, py, 0, 0⟩] = true := by
  simp [mayB, mayFrom, rightB, nearB, co]
  omega
theorem one_start (px py : Int) (h1 : -8191 ≤ px ∧ px ≤ 8191) (h2 : -8191 ≤ py ∧ py ≤ 8191) : startL [] px py = ([⟨1, px, py, 0, 0⟩], 0) := by
  have e1 := co_of h1
  have e2 := co_of h2
  have h0 : mayB [] = true := rfl
  unfold startL
  rw [h0, show nearB [px, py] = true by simp [nearB, e1, e2]]
  simp [lastK, longL]
theorem one_base (px py : Int) (h1 : -8191 ≤ px ∧ px ≤ 8191) (h2 : -8191 ≤ py ∧ py ≤ 8191) : baseL [⟨1, px, py, 0, 0⟩] = (px, py, 0) := by
  unfold baseL ptL
  rw [one_may px py h1 h2]
  simp [lastK, lastX, lastY]
/-- A point of a new state. -/
theorem dev_point (h u v : Int) (h1 : 1 ≤ h) (h2 : h ≤ 64) (hu : -40000000 ≤ u ∧ u ≤ 40000000) (hv : -40000000 ≤ v ∧ v ≤ 40000000) :
    pointM (devM h) u v = nearP (rndM 4294967296 2147483648 (1048576 * u)) (rndM 4294967296 2147483648 (68719476736 * h - 1048576 * v)) 8191 := by
  unfold pointM
  rw [dev_may h h1 h2, fixB_of (v := u) (by omega), fixB_of (v := v) (by omega)]
  simp only [Bool.and_self, if_true]
  unfold devM
  simp only
  congr 2 <;> omega
theorem dev_vector (h u v : Int) (h1 : 1 ≤ h) (h2 : h ≤ 64) (hu : -40000000 ≤ u ∧ u ≤ 40000000) (hv : -40000000 ≤ v ∧ v ≤ 40000000) :
    vectorM (devM h) u v = nearP (rndM 4294967296 2147483648 (1048576 * u)) (rndM 4294967296 2147483648 (-1048576 * v)) 16382 := by
  unfold vectorM
  rw [dev_may h h1 h2, fixB_of (v := u) (by omega), fixB_of (v := v) (by omega)]
  simp only [Bool.and_self, if_true]
  unfold devM
  simp only
  congr 2 <;> omega
theorem near_in {x y k : Int} (h1 : -k ≤ x ∧ x ≤ k) (h2 : -k ≤ y ∧ y ≤ k) : nearP x y k = (x, y, 0) := by
  unfold nearP; rw [if_neg (by omega)]
/-- A new state that has moved. -/
theorem new_moved (h u v : Int) (h1 : 1 ≤ h) (h2 : h ≤ 64) (hu : -20000000 ≤ u ∧ u ≤ 20000000) (hv : -20000000 ≤ v ∧ v ≤ 20000000) :
    ∃ px py, px = rndM 4294967296 2147483648 (1048576 * u) ∧ py = rndM 4294967296 2147483648 (68719476736 * h - 1048576 * v) ∧ (-8191 ≤ px ∧ px ≤ 8191) ∧ (-8191 ≤ py ∧ py ≤ 8191) ∧
      toS (fun a b => startL (newS h).p a b) (newS h) u v false = ({ newS h with p := [⟨1, px, py, 0, 0⟩] }, 0) := by
  obtain ⟨px, hpx⟩ : ∃ px, px = rndM 4294967296 2147483648 (1048576 * u) := ⟨_, rfl⟩
  obtain ⟨py, hpy⟩ : ∃ py, py = rndM 4294967296 2147483648 (68719476736 * h - 1048576 * v) := ⟨_, rfl⟩
  have r1 := rnd_near (1048576 * u)
  have r2 := rnd_near (68719476736 * h - 1048576 * v)
  rw [← hpx] at r1
  rw [← hpy] at r2
  have b1 : -8191 ≤ px ∧ px ≤ 8191 := by omega
  have b2 : -8191 ≤ py ∧ py ≤ 8191 := by omega
  refine ⟨px, py, hpx, hpy, b1, b2, ?_⟩
  have m1 : mayS (newS h) = true := new_may h [] h1 h2 rfl
  have f1 : [u, v].all fixB = true := by simp [fixB_of (v := u) (by omega), fixB_of (v := v) (by omega)]
  have e1 : pointS (newS h).m (newS h).p u v false = (px, py, 0) := by
    show pointM (devM h) u v = _
    rw [dev_point h u v h1 h2 (by omega) (by omega), ← hpx, ← hpy, near_in b1 b2]
  have e2 : startL (newS h).p px py = ([⟨1, px, py, 0, 0⟩], 0) := one_start px py b1 b2
  unfold toS
  rw [m1, f1, e1]
  simp [e2]
theorem mdv_exact (z : Int) (hz : -8191 * 2 ≤ z ∧ z ≤ 8191 * 2) : mdv (68719476736 * z) (-1099511627776) = (-(4096 * z), true) := by
  have hn : (68719476736 * z).natAbs * 65536 = z.natAbs * 4503599627370496 := by omega
  have hd : (-1099511627776 : Int).natAbs = 1099511627776 := rfl
  unfold mdv
  rw [hn, hd, if_neg (by omega)]
  have hq : z.natAbs * 4503599627370496 / 1099511627776 = z.natAbs * 4096 := by omega
  have hr : z.natAbs * 4503599627370496 % 1099511627776 = 0 := by omega
  rw [hq, hr]
  have hu : upB (z.natAbs * 4096) 0 1099511627776 = false := by simp [upB]
  rw [hu]
  simp only [Bool.false_eq_true, if_false]
  unfold sgnQ
  by_cases h : z < 0
  · have e : (decide (68719476736 * z < 0) != decide ((-1099511627776 : Int) < 0)) = false := by
      rw [decide_eq_true (show 68719476736 * z < 0 by omega)]; rfl
    rw [e, if_neg (by simp), if_pos (by omega)]
    simp only [Prod.mk.injEq, and_true]
    omega
  · have e : (decide (68719476736 * z < 0) != decide ((-1099511627776 : Int) < 0)) = true := by
      rw [decide_eq_false (show ¬ 68719476736 * z < 0 by omega)]; rfl
    rw [e, if_pos rfl, if_pos (by omega)]
    simp only [Prod.mk.injEq, and_true]
    omega
theorem dev_back (h px py : Int) (h1 : 1 ≤ h) (h2 : h ≤ 64) (b1 : -8191 ≤ px ∧ px ≤ 8191) (b2 : -8191 ≤ py ∧ py ≤ 8191) : backM (devM h) px py = (4096 * px, -(4096 * (py - 16 * h)), 0) := by
  have hd : detM (devM h) = -1099511627776 := by unfold detM devM; rfl
  unfold backM
  rw [dev_may h h1 h2, near_in b1 b2, hd, if_neg (by simp), if_neg (by simp), if_neg (by decide)]
  have e1 : (devM h).d * (px * 65536 - (devM h).e) - (devM h).c * (py * 65536 - (devM h).f) = 68719476736 * -px := by unfold devM; simp only; omega
  have e2 : (devM h).a * (py * 65536 - (devM h).f) - (devM h).b * (px * 65536 - (devM h).e) = 68719476736 * (py - 16 * h) := by unfold devM; simp only; omega
  rw [e1, e2, mdv_exact _ (by omega), mdv_exact _ (by omega)]
  simp only [Bool.and_self, if_true]
  rw [near_in (by omega) (by omega)]
  congr 1
  omega
/-- All that StateThere says. -/
theorem th_all (h a b c d p q : Int) (h1 : 1 ≤ h) (h2 : h ≤ 64) (ha : -2200000 ≤ a ∧ a ≤ 2200000) (hb : -2200000 ≤ b ∧ b ≤ 2200000) (gx gy ex ey : Int) (hc : c = 65536 * gx) (hd : d = 65536 * gy) (hp : p = 65536 * ex) (hq : q = 65536 * ey)
    (k1 : -200 ≤ gx ∧ gx ≤ 200) (k2 : -200 ≤ gy ∧ gy ≤ 200) (k3 : -200 ≤ ex ∧ ex ≤ 200) (k4 : -200 ≤ ey ∧ ey ≤ 200) :
    ∃ x t m Y u v, newS h = x ∧ toS (fun a b => startL x.p a b) x a b false = (t, 0) ∧ hereS t = (u, v, 0) ∧ (-2049 ≤ u - a ∧ u - a ≤ 2049) ∧ (-2049 ≤ v - b ∧ v - b ≤ 2049) ∧ toS (fun a b => startL x.p a b) x c d false = (m, 0) ∧
      toS (fun a b => onL m.p ⟨2, a, b, 0, 0⟩) m p q true = Y ∧ toS (fun a b => onL m.p ⟨2, a, b, 0, 0⟩) m (c + p) (d + q) false = Y := by
  obtain ⟨px, py, hpx, hpy, b1, b2, ht⟩ := new_moved h a b h1 h2 (by omega) (by omega)
  obtain ⟨sx, sy, hsx, hsy, s1, s2, hm⟩ := new_moved h c d h1 h2 (by omega) (by omega)
  have r1 := rnd_near (1048576 * a)
  have r2 := rnd_near (68719476736 * h - 1048576 * b)
  rw [← hpx] at r1
  rw [← hpy] at r2
  have g1 : sx = 16 * gx := by rw [hsx]; exact rnd_mul (by omega) (by omega) (by omega)
  have g2 : sy = 16 * h - 16 * gy := by rw [hsy]; exact rnd_mul (by omega) (by omega) (by omega)
  refine ⟨newS h, _, _, _, 4096 * px, -(4096 * (py - 16 * h)), rfl, ht, ?_, by omega, by omega, hm, rfl, ?_⟩
  · unfold hereS
    have e1 : mayS { newS h with p := [⟨1, px, py, 0, 0⟩] } = true := new_may h _ h1 h2 (one_may px py b1 b2)
    have e2 : baseL ({ newS h with p := [⟨1, px, py, 0, 0⟩] } : St).p = (px, py, 0) := one_base px py b1 b2
    rw [e1, e2]
    simp only [Bool.true_eq_false, if_false, ne_eq, not_true_eq_false]
    exact dev_back h px py h1 h2 b1 b2
  · have e1 : pointS ({ newS h with p := [⟨1, sx, sy, 0, 0⟩] } : St).m ({ newS h with p := [⟨1, sx, sy, 0, 0⟩] } : St).p (c + p) (d + q) false = (16 * gx + 16 * ex, 16 * h - 16 * gy - 16 * ey, 0) := by
      show pointM (devM h) (c + p) (d + q) = _
      rw [dev_point h _ _ h1 h2 (by omega) (by omega), rnd_mul (q := 16 * gx + 16 * ex) (by omega) (by omega) (by omega), rnd_mul (q := 16 * h - 16 * gy - 16 * ey) (by omega) (by omega) (by omega), near_in (by omega) (by omega)]
    have e2 : pointS ({ newS h with p := [⟨1, sx, sy, 0, 0⟩] } : St).m ({ newS h with p := [⟨1, sx, sy, 0, 0⟩] } : St).p p q true = (16 * gx + 16 * ex, 16 * h - 16 * gy - 16 * ey, 0) := by
      have v1 : vectorM (devM h) p q = (16 * ex, -(16 * ey), 0) := by
        rw [dev_vector h _ _ h1 h2 (by omega) (by omega), rnd_mul (q := 16 * ex) (by omega) (by omega) (by omega), rnd_mul (q := -(16 * ey)) (by omega) (by omega) (by omega), near_in (by omega) (by omega)]
      have v2 : baseL [⟨1, sx, sy, 0, 0⟩] = (sx, sy, 0) := one_base sx sy s1 s2
      have i1 : inB (16 * ex + sx) (-8191) 8191 = true := by simp [inB]; omega
      have i2 : inB (-(16 * ey) + sy) (-8191) 8191 = true := by simp [inB]; omega
      show pointS (devM h) [⟨1, sx, sy, 0, 0⟩] p q true = _
      unfold pointS
      rw [v1, v2]
      simp only [i1, i2, ne_eq, not_true_eq_false, if_false, if_true, Bool.and_self]
      simp only [Prod.mk.injEq, and_true]
      omega
    have f1 : [c + p, d + q].all fixB = true := by simp [fixB_of (v := c + p) (by omega), fixB_of (v := d + q) (by omega)]
    have f2 : [p, q].all fixB = true := by simp [fixB_of (v := p) (by omega), fixB_of (v := q) (by omega)]
    unfold toS
    rw [f1, f2, e1, e2]
end Go.Proofs.Ytaadajadeemndaa
