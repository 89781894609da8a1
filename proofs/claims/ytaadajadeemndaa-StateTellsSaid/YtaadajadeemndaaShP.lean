/- StateShifts, plainly. -/
import Derived.Test.YtaadajadeemndaaSt10
namespace Go.Proofs.Ytaadajadeemndaa

theorem rnd_mul {p h q n : Int} (hp : 0 < p) (hh : 0 < h) (hn : n = q * p) : rndM p h n = q := by
  subst hn
  unfold rndM
  rw [Int.mul_ediv_cancel _ (by omega), if_neg (by omega)]
theorem fixB_of {v : Int} (h : -1073741823 ≤ v ∧ v ≤ 1073741823) : fixB v = true := fixB_iff.2 h
/-- New's matrix, moved. -/
def shM (a b : Int) : Mt := ⟨1048576, 0, 0, -1048576, 16 * a, 20971520 - 16 * b⟩
theorem sh_mul (a b : Int) (ha : -2200000 ≤ a ∧ a ≤ 2200000) (hb : -2200000 ≤ b ∧ b ≤ 2200000) : mulM ⟨65536, 0, 0, 65536, a, b⟩ (devM 20) = (shM a b, 0) := by
  unfold mulM
  by_cases h0 : a = 0 ∧ b = 0
  · obtain ⟨rfl, rfl⟩ := h0
    rfl
  · have h1 : eqM ⟨65536, 0, 0, 65536, a, b⟩ oneM = false := by
      cases h : eqM ⟨65536, 0, 0, 65536, a, b⟩ oneM
      · rfl
      · rw [eqM_iff] at h
        simp only [oneM, Mt.mk.injEq] at h
        exact absurd ⟨h.2.2.2.2.1, h.2.2.2.2.2⟩ h0
    have h2 : eqM (devM 20) oneM = false := rfl
    have h3 : prodM ⟨65536, 0, 0, 65536, a, b⟩ (devM 20) = shM a b := by
      unfold prodM shM devM
      simp only [Mt.mk.injEq]
      refine ⟨rnd_mul (by omega) (by omega) (by omega), rnd_mul (by omega) (by omega) (by omega), rnd_mul (by omega) (by omega) (by omega), rnd_mul (by omega) (by omega) (by omega), ?_, ?_⟩
      · rw [rnd_mul (q := 16 * a) (by omega) (by omega) (by omega)]; omega
      · rw [rnd_mul (q := -16 * b) (by omega) (by omega) (by omega)]; omega
    have h4 : mtB (shM a b) = true := by
      unfold mtB shM
      simp only [Bool.and_eq_true]
      refine ⟨⟨⟨⟨⟨fixB_of (by omega), fixB_of (by omega)⟩, fixB_of (by omega)⟩, fixB_of (by omega)⟩, fixB_of (by omega)⟩, fixB_of (by omega)⟩
    rw [h1, h2, h3, h4]
    rfl
theorem sh_may (a b : Int) (ha : -2200000 ≤ a ∧ a ≤ 2200000) (hb : -2200000 ≤ b ∧ b ≤ 2200000) : mayS { newS 20 with m := shM a b } = true := by
  have h4 : mtB (shM a b) = true := by
    unfold mtB shM
    simp only [Bool.and_eq_true]
    refine ⟨⟨⟨⟨⟨fixB_of (by omega), fixB_of (by omega)⟩, fixB_of (by omega)⟩, fixB_of (by omega)⟩, fixB_of (by omega)⟩, fixB_of (by omega)⟩
  show (mtB (shM a b) && mayB [] && clsB [] && dashB [] && fontB obZero && restB (newS 20)) = true
  rw [h4]
  kernel_rfl
theorem new_shM : newS 20 = { newS 20 with m := shM 0 0 } := rfl
theorem sh_point (a b c d : Int) (ha : -2200000 ≤ a ∧ a ≤ 2200000) (hb : -2200000 ≤ b ∧ b ≤ 2200000) (hc : -2200000 ≤ c ∧ c ≤ 2200000) (hd : -2200000 ≤ d ∧ d ≤ 2200000) :
    pointM (shM a b) c d = nearP (rndM 4294967296 2147483648 (1048576 * (a + c))) (rndM 4294967296 2147483648 (1374389534720 - 1048576 * (b + d))) 8191 := by
  have h4 : mtB (shM a b) = true := by
    unfold mtB shM
    simp only [Bool.and_eq_true]
    refine ⟨⟨⟨⟨⟨fixB_of (by omega), fixB_of (by omega)⟩, fixB_of (by omega)⟩, fixB_of (by omega)⟩, fixB_of (by omega)⟩, fixB_of (by omega)⟩
  unfold pointM
  rw [h4, fixB_of (v := c) (by omega), fixB_of (v := d) (by omega)]
  simp only [Bool.and_self, if_true]
  unfold shM
  simp only
  congr 2 <;> omega
theorem sh_to (a b c d : Int) (ha : -1048576 ≤ a ∧ a ≤ 1048576) (hb : -1048576 ≤ b ∧ b ≤ 1048576) (hc : -1048576 ≤ c ∧ c ≤ 1048576) (hd : -1048576 ≤ d ∧ d ≤ 1048576) :
    (toS (fun u v => startL [] u v) { newS 20 with m := shM a b } c d false).2 = (toS (fun u v => startL [] u v) (newS 20) (a + c) (b + d) false).2 ∧
    (toS (fun u v => startL [] u v) { newS 20 with m := shM a b } c d false).1.p = (toS (fun u v => startL [] u v) (newS 20) (a + c) (b + d) false).1.p := by
  have e1 : pointS (shM a b) [] c d false = pointM (shM a b) c d := rfl
  have e2 : pointS (devM 20) [] (a + c) (b + d) false = pointM (shM 0 0) (a + c) (b + d) := rfl
  have m1 := sh_may a b (by omega) (by omega)
  have m2 : mayS (newS 20) = true := sh_may 0 0 (by omega) (by omega)
  have p1 := sh_point a b c d (by omega) (by omega) (by omega) (by omega)
  have p2 := sh_point 0 0 (a + c) (b + d) (by omega) (by omega) (by omega) (by omega)
  have p3 : pointM (shM a b) c d = pointM (shM 0 0) (a + c) (b + d) := by rw [p1, p2, Int.zero_add, Int.zero_add]
  have f1 : [c, d].all fixB = true := by simp [fixB_of (v := c) (by omega), fixB_of (v := d) (by omega)]
  have f2 : [a + c, b + d].all fixB = true := by simp [fixB_of (v := a + c) (by omega), fixB_of (v := b + d) (by omega)]
  unfold toS
  rw [m1, m2, f1, f2]
  have e1' : pointS { newS 20 with m := shM a b }.m { newS 20 with m := shM a b }.p c d false = pointM (shM 0 0) (a + c) (b + d) := by rw [← p3]; rfl
  have e2' : pointS (newS 20).m (newS 20).p (a + c) (b + d) false = pointM (shM 0 0) (a + c) (b + d) := rfl
  rw [e1', e2']
  generalize pointM (shM 0 0) (a + c) (b + d) = q
  simp only [Bool.and_self, Bool.true_eq_false, if_false]
  split
  · exact ⟨rfl, rfl⟩
  · split <;> exact ⟨rfl, rfl⟩
end Go.Proofs.Ytaadajadeemndaa
