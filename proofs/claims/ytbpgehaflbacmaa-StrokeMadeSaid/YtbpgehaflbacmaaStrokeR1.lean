/- The reference's numbers of two words, where they are small; its Sign. -/
import Derived.Test.YtbpgehaflbacmaaStroke1
namespace Go.Proofs.Ytbpgehaflbacmaa
open Go.RowKit

theorem ref_Abs_any (v : Int) (w : World) (h : -2147483648 ≤ v ∧ v ≤ 2147483648) :
    Calls Try.prog 50 #[.int .i64 v] w fun e w' => e = .returned (.int .u64 (v.natAbs : Int)) ∧ w = w' := by
  obtain ⟨h0, h1⟩ := h
  go_enter Try.func50, Try.ntmps50
  by_cases hv : v < 0
  · go_wp2
    go_ret
    exact ⟨ret_int (by omega), rfl⟩
  · go_wp2
    go_ret
    exact ⟨ret_int (by omega), rfl⟩
set_option maxHeartbeats 1000000 in
theorem ref_Times_any (a b : Int) (w : World) (ha : 0 ≤ a ∧ a ≤ 2147483648) (hb : 0 ≤ b ∧ b ≤ 2147483648) :
    Calls Try.prog 49 #[.int .u64 a, .int .u64 b] w fun e w' => e = .returned (.agg #[.int .u64 0, .int .u64 (a * b)]) ∧ Below w.heap.size w w' := by
  have hp := mulN_bd ha hb
  have ma : bits .and .u64 a 4294967295 = a := mask32 ha.1 (by omega)
  have mb : bits .and .u64 b 4294967295 = b := mask32 hb.1 (by omega)
  have da : a / 4294967296 = 0 := by omega
  have db : b / 4294967296 = 0 := by omega
  have hw : IntKind.u64.wrap (a * b) = a * b := u64_wrap hp.1 (by omega)
  have w0 : IntKind.u64.wrap 0 = 0 := rfl
  have a0 : bits .and .u64 0 4294967295 = 0 := rfl
  obtain ⟨p, hpe⟩ : ∃ p, p = a * b := ⟨_, rfl⟩
  rw [← hpe] at hp hw ⊢
  obtain ⟨p0, p1⟩ := hp
  have hpe2 : a * b = p := hpe.symm
  have wd : IntKind.u64.wrap (p / 4294967296) = p / 4294967296 := u64_wrap (by omega) (by omega)
  have dd : p / 4294967296 / 4294967296 = 0 := by omega
  have ws : IntKind.u64.wrap (p / 4294967296 * 4294967296) = p / 4294967296 * 4294967296 := u64_wrap (by omega) (by omega)
  have mp : bits .and .u64 p 4294967295 = p % 4294967296 := and_low32 p p0 (by omega)
  have mh : bits .and .u64 (p / 4294967296) 4294967295 = p / 4294967296 := mask32 (by omega) (by omega)
  have oj : bits .or .u64 (p / 4294967296 * 4294967296) (p % 4294967296) = p := or_join p0 (by omega)
  clear hpe
  go_enter Try.func49, Try.ntmps49
  go_wp2
  exact bodyPost_ret (v := .agg #[.int .u64 0, .int .u64 p]) (by simp [results, Try.results49, go_sem]) rfl ⟨rfl, bal (Below.refl _ _) _⟩

set_option maxHeartbeats 1000000 in
theorem ref_Cmp_any (a b : Int) (w : World) (ha : 0 ≤ a ∧ a < 18446744073709551616) (hb : 0 ≤ b ∧ b < 18446744073709551616) :
    Calls Try.prog 52 #[.agg #[.int .u64 0, .int .u64 a], .agg #[.int .u64 0, .int .u64 b]] w fun e w' => e = .returned (.int .i64 (sgnI (a - b))) ∧ Below w.heap.size w w' := by
  have hB := bal (bal (Below.refl w.heap.size w) (.cells #[.int .u64 0, .int .u64 a] 89)) (.cells #[.int .u64 0, .int .u64 b] 89)
  obtain ⟨r, hr⟩ : ∃ r, r = sgnI (a - b) := ⟨_, rfl⟩
  rw [← hr]
  have HR := Lib.hid hr
  clear hr
  obtain ⟨a0, a1⟩ := ha
  obtain ⟨b0, b1⟩ := hb
  go_enter Try.func52, Try.ntmps52
  rcases Int.lt_trichotomy a b with h | h | h
  · have hr : r = -1 := by rw [HR.out]; rcases sgnI_cases (a - b) with ⟨h1, h2⟩ | ⟨h1, h2⟩ | ⟨h1, h2⟩ <;> omega
    have HR2 := Lib.hid hr
    clear hr
    go_wp2
    go_ret
    exact ⟨ret_int HR2.out.symm, hB⟩
  · subst h
    have hr : r = 0 := by rw [HR.out]; rcases sgnI_cases (a - a) with ⟨h1, h2⟩ | ⟨h1, h2⟩ | ⟨h1, h2⟩ <;> omega
    have HR2 := Lib.hid hr
    clear hr
    go_wp2
    go_ret
    exact ⟨ret_int HR2.out.symm, hB⟩
  · have hr : r = 1 := by rw [HR.out]; rcases sgnI_cases (a - b) with ⟨h1, h2⟩ | ⟨h1, h2⟩ | ⟨h1, h2⟩ <;> omega
    have HR2 := Lib.hid hr
    have hn : ¬ a < b := by omega
    have hbq : (a == b) = false := by simp; omega
    clear hr
    go_wp2
    go_ret
    exact ⟨ret_int HR2.out.symm, hB⟩

set_option maxHeartbeats 1000000 in
theorem ref_cmpTimes_any (x n y : Int) (w : World) (hx : 0 ≤ x ∧ x ≤ 2147483648) (hn : 0 ≤ n ∧ n ≤ 2147483648) (hy : 0 ≤ y ∧ y < 18446744073709551616) :
    Calls Try.prog 51 #[.agg #[.int .u64 0, .int .u64 x], .int .u64 n, .agg #[.int .u64 0, .int .u64 y]] w fun e w' => e = .returned (.int .i64 (sgnI (x * n - y))) ∧ Below w.heap.size w w' := by
  have hp := mulN_bd hx hn
  obtain ⟨p, hpe⟩ : ∃ p, p = x * n := ⟨_, rfl⟩
  have hT := fun W => ref_Times_any x n W hx hn
  rw [← hpe] at hp ⊢
  simp only [← hpe] at hT
  have HT := Lib.hid hT
  have hT0 := fun W => ref_Times_any 0 n W (by omega) hn
  simp only [Int.zero_mul] at hT0
  have HT0 := Lib.hid hT0
  clear hT hT0 hpe
  have hB := bal (bal (Below.refl w.heap.size w) (.cells #[.int .u64 0, .int .u64 x] 89)) (.cells #[.int .u64 0, .int .u64 y] 89)
  obtain ⟨W0, hW0⟩ : ∃ W0 : World, W0 = (w.alloc (.cells #[.int .u64 0, .int .u64 x] 89)).alloc (.cells #[.int .u64 0, .int .u64 y] 89) := ⟨_, rfl⟩
  rw [← hW0] at hB
  have x0 : W0.cell? ⟨w.heap.size, 0, none⟩ = some (.int .u64 0) := by rw [hW0]; exact (later_cell (bal (Below.refl _ _) _) (by simp)).trans (new_cell _ 0)
  have x1 : W0.cell? ⟨w.heap.size, 1, none⟩ = some (.int .u64 x) := by rw [hW0]; exact (later_cell (bal (Below.refl _ _) _) (by simp)).trans (new_cell _ 1)
  have hz : (w.alloc (.cells #[.int .u64 0, .int .u64 x] 89)).heap.size = w.heap.size + 1 := by simp
  have y0 : W0.cell? ⟨w.heap.size + 1, 0, none⟩ = some (.int .u64 0) := by rw [hW0, ← hz]; exact new_cell _ 0
  have y1 : W0.cell? ⟨w.heap.size + 1, 1, none⟩ = some (.int .u64 y) := by rw [hW0, ← hz]; exact new_cell _ 1
  have z0 : w.heap.size + 1 < W0.heap.size := by rw [hW0]; simp
  have z1 : w.heap.size < W0.heap.size := by omega
  clear hz
  go_enter Try.func51, Try.ntmps51
  go_wp2_with fail
  rw [← hW0]
  clear hW0
  refine (HT.out _).mono ?_; rintro e w1 ⟨rfl, hb1⟩
  replace x0 := (later_cell hb1 z1).trans x0
  replace y0 := (later_cell hb1 z0).trans y0
  replace y1 := (later_cell hb1 z0).trans y1
  have B1 := btr hB hb1
  replace z1 := Nat.lt_of_lt_of_le z1 hb1.size
  replace z0 := Nat.lt_of_lt_of_le z0 hb1.size
  clear hb1 hB x1
  go_wp2_with fail
  refine (HT0.out _).mono ?_; rintro e w2 ⟨rfl, hb2⟩
  have l0 := (later_cell hb2 (by simp)).trans (new_cell (w := w1) (t := 89) #[.int .u64 0, .int .u64 p] 0)
  have l1 := (later_cell hb2 (by simp)).trans (new_cell (w := w1) (t := 89) #[.int .u64 0, .int .u64 p] 1)
  have hb12 := btr (bal (Below.refl w1.heap.size w1) _) hb2
  have hl2 : w1.heap.size < w2.heap.size := Nat.lt_of_lt_of_le (by simp) hb2.size
  replace y0 := (later_cell hb12 z0).trans y0
  replace y1 := (later_cell hb12 z0).trans y1
  have B2 := btr B1 hb12
  replace z0 := Nat.lt_of_lt_of_le z0 hb12.size
  clear hb2 hb12 B1 x0 z1
  go_wp2_with fail
  refine (ref_Cmp_any p y _ (by omega) hy).mono ?_; rintro e w3 ⟨rfl, hb3⟩
  go_wp2
  go_ret
  exact ⟨rfl, btr (bal B2 _) hb3⟩

theorem ref_sign_any (v : Int) (w : World) : Calls Try.prog 48 #[.int .i64 v] w fun e w' => e = .returned (.int .i64 (sgnI v)) ∧ w = w' := by
  go_enter Try.func48, Try.ntmps48
  go_wp2
  all_goals
    go_ret
    refine ⟨ret_int ?_, rfl⟩
    rcases sgnI_cases v with ⟨h1, h2⟩ | ⟨h1, h2⟩ | ⟨h1, h2⟩ <;> omega

/-- Sign as the reference has it. -/
theorem rsgn_ref {p q d : Int} (hd : 0 ≤ d) : rsgn p q d = (if d = 0 then (if sgnI p = 0 ∨ (0 : Int) = 0 ∨ sgnI p = 0 then sgnI (sgnI p + 0) else 0) else if sgnI p = 0 ∨ sgnI q = 0 ∨ sgnI p = sgnI q then sgnI (sgnI p + sgnI q) else sgnI q * sgnI (q * q * d - p * p)) := by
  have hs : sgnI (q * q * d - p * p) = -sgnI (p * p - q * q * d) := by
    rcases sgnI_cases (p * p - q * q * d) with ⟨h1, h2⟩ | ⟨h1, h2⟩ | ⟨h1, h2⟩ <;> rcases sgnI_cases (q * q * d - p * p) with ⟨h3, h4⟩ | ⟨h3, h4⟩ | ⟨h3, h4⟩ <;> omega
  unfold rsgn
  rw [hs]
  generalize sgnI (p * p - q * q * d) = z
  have hone : sgnI 1 = 1 ∧ sgnI 0 = 0 ∧ sgnI (-1) = -1 ∧ sgnI 2 = 1 ∧ sgnI (-2) = -1 := by decide
  obtain ⟨k1, k2, k3, k4, k5⟩ := hone
  rcases sgnI_cases p with ⟨a, a'⟩ | ⟨a, a'⟩ | ⟨a, a'⟩ <;> rcases sgnI_cases q with ⟨b, b'⟩ | ⟨b, b'⟩ | ⟨b, b'⟩ <;> rcases sgnI_cases d with ⟨c, c'⟩ | ⟨c, c'⟩ | ⟨c, c'⟩ <;> rw [a', b', c'] <;>
    first
    | (exfalso; omega)
    | (subst c; simp [k1, k2, k3])
    | (have hd0 : d ≠ 0 := by omega
       simp [hd0, k1, k2, k3, k4, k5])

set_option maxHeartbeats 1000000 in
theorem ref_Sign_any (p q d : Int) (w : World) (hp : -2147483648 ≤ p ∧ p ≤ 2147483648) (hq : -2048 ≤ q ∧ q ≤ 2048) (hd : 0 ≤ d ∧ d ≤ 1073741824) :
    Calls Try.prog 47 #[.int .i64 p, .int .i64 q, .int .i64 d] w fun e w' => e = .returned (.int .i64 (rsgn p q d)) ∧ Below w.heap.size w w' := by
  have hr := rsgn_ref (p := p) (q := q) hd.1
  have hqq : 0 ≤ q * q ∧ q * q ≤ 4194304 := sq_bd hq
  have hpp : 0 ≤ p * p ∧ p * p ≤ 2147483648 * 2147483648 := sq_bd hp
  have e0 : (p.natAbs : Int) * (p.natAbs : Int) = p * p := Int.natAbs_mul_self' p
  have e1 : (q.natAbs : Int) * (q.natAbs : Int) = q * q := Int.natAbs_mul_self' q
  have hCT := fun W => ref_cmpTimes_any (q * q) d (p * p) W (by omega) (by omega) (by omega)
  have hTq := fun W => ref_Times_any (q.natAbs : Int) (q.natAbs : Int) W (by omega) (by omega)
  have hTp := fun W => ref_Times_any (p.natAbs : Int) (p.natAbs : Int) W (by omega) (by omega)
  simp only [e0] at hTp
  simp only [e1] at hTq
  obtain ⟨A, hA⟩ : ∃ A, A = sgnI p := ⟨_, rfl⟩
  obtain ⟨B, hB⟩ : ∃ B, B = sgnI q := ⟨_, rfl⟩
  obtain ⟨C, hC⟩ : ∃ C, C = sgnI (q * q * d - p * p) := ⟨_, rfl⟩
  obtain ⟨r, hrr⟩ : ∃ r, r = rsgn p q d := ⟨_, rfl⟩
  simp only [← hC] at hCT
  rw [← hA, ← hB, ← hC, ← hrr] at hr
  rw [← hrr]
  have tri : ∀ v : Int, -1 ≤ sgnI v ∧ sgnI v ≤ 1 := fun v => by rcases sgnI_cases v with ⟨_, h⟩ | ⟨_, h⟩ | ⟨_, h⟩ <;> omega
  have tA := tri p
  have tB := tri q
  have tC := tri (q * q * d - p * p)
  rw [← hA] at tA
  rw [← hB] at tB
  rw [← hC] at tC
  have tBC : -1 ≤ B * C ∧ B * C ≤ 1 := by
    have : B = -1 ∨ B = 0 ∨ B = 1 := by omega
    rcases this with h | h | h <;> rw [h] <;> omega
  obtain ⟨F, hF⟩ : ∃ F, F = B * C := ⟨_, rfl⟩
  rw [← hF] at tBC hr
  have hsp := fun W => ref_sign_any p W
  have hsq := fun W => ref_sign_any q W
  rw [← hA] at hsp
  rw [← hB] at hsq
  have HSP := Lib.hid hsp
  have HSQ := Lib.hid hsq
  have HR := Lib.hid hr
  have HCT := Lib.hid hCT
  have HTQ := Lib.hid hTq
  have HTP := Lib.hid hTp
  have hF2 : B * C = F := hF.symm
  obtain ⟨tA0, tA1⟩ := tA
  obtain ⟨tB0, tB1⟩ := tB
  obtain ⟨tF0, tF1⟩ := tBC
  obtain ⟨d0, d1⟩ := hd
  clear hr hA hB hC hrr tri e0 e1 hCT hTq hTp hF hsp hsq hqq hpp
  go_enter Try.func47, Try.ntmps47
  go_wp2_with fail
  refine (HSP.out _).mono ?_; rintro e w1 ⟨rfl, rfl⟩
  go_wp2_with fail
  refine (HSQ.out _).mono ?_; rintro e w1 ⟨rfl, rfl⟩
  by_cases hd0 : d = 0
  · have g0 : (d == 0) = true := by simp [hd0]
    have hv : r = sgnI (A + 0) := by rw [HR.out, if_pos hd0]; simp
    have HV := Lib.hid hv
    clear hv hd0
    by_cases hA0 : A = 0
    · have g1 : (A == 0) = true := by simp [hA0]
      have hA0' := Lib.hid hA0
      clear hA0
      go_wp2_with fail
      refine (ref_sign_any _ _).mono ?_; rintro e w1 ⟨rfl, rfl⟩
      go_wp2
      go_ret
      exact ⟨ret_int (by rw [HV.out, hA0'.out] <;> rfl), Below.refl _ _⟩
    · have g1 : (A == 0) = false := by simp [hA0]
      clear hA0
      go_wp2_with fail
      refine (ref_sign_any _ _).mono ?_; rintro e w1 ⟨rfl, rfl⟩
      go_wp2
      go_ret
      exact ⟨ret_int (by rw [HV.out] <;> first | rfl | simp), Below.refl _ _⟩
  · have g0 : (d == 0) = false := by simp [hd0]
    by_cases hc : A = 0 ∨ B = 0 ∨ A = B
    · have hv : r = sgnI (A + B) := by rw [HR.out, if_neg hd0, if_pos hc]
      have HV := Lib.hid hv
      have hcs : (A == 0) = true ∨ ((A == 0) = false ∧ (B == 0) = true) ∨ ((A == 0) = false ∧ (B == 0) = false ∧ (A == B) = true) := by
        by_cases c1 : A = 0
        · exact .inl (by simp [c1])
        · by_cases c2 : B = 0
          · exact .inr (.inl ⟨by simp [c1], by simp [c2]⟩)
          · exact .inr (.inr ⟨by simp [c1], by simp [c2], by simp; omega⟩)
      clear hv hd0 hc
      rcases hcs with g1 | ⟨g1, g2⟩ | ⟨g1, g2, g3⟩
      all_goals
        go_wp2_with fail
        refine (ref_sign_any (A + B) _).mono ?_; rintro e w1 ⟨rfl, rfl⟩
        go_wp2
        go_ret
        exact ⟨ret_int HV.out.symm, Below.refl _ _⟩
    · have hv : r = F := by rw [HR.out, if_neg hd0, if_neg hc]
      have HV := Lib.hid hv
      have g1 : (A == 0) = false := by simp; omega
      have g2 : (B == 0) = false := by simp; omega
      have g3 : (A == B) = false := by simp; omega
      clear hv hd0 hc
      go_wp2_with fail
      refine (ref_Abs_any q _ (by omega)).mono ?_; rintro e w1 ⟨rfl, rfl⟩
      go_wp2_with fail
      refine (ref_Abs_any q _ (by omega)).mono ?_; rintro e w1 ⟨rfl, rfl⟩
      go_wp2_with fail
      refine (HTQ.out _).mono ?_; rintro e w2 ⟨rfl, hb2⟩
      go_wp2_with fail
      refine (ref_Abs_any p _ hp).mono ?_; rintro e w1 ⟨rfl, rfl⟩
      go_wp2_with fail
      refine (ref_Abs_any p _ hp).mono ?_; rintro e w1 ⟨rfl, rfl⟩
      go_wp2_with fail
      refine (HTP.out _).mono ?_; rintro e w3 ⟨rfl, hb3⟩
      have l0 := (later_cell hb3 (by simp)).trans (new_cell (w := w2) (t := 89) #[.int .u64 0, .int .u64 (q * q)] 0)
      have l1 := (later_cell hb3 (by simp)).trans (new_cell (w := w2) (t := 89) #[.int .u64 0, .int .u64 (q * q)] 1)
      have hl2 : w2.heap.size < w3.heap.size := Nat.lt_of_lt_of_le (by simp) hb3.size
      have B3 := btr (bal hb2 _) hb3
      clear hb2 hb3
      go_wp2_with fail
      refine (HCT.out _).mono ?_; rintro e w4 ⟨rfl, hb4⟩
      go_wp2
      go_ret
      exact ⟨ret_int HV.out.symm, btr (bal B3 _) hb4⟩
end Go.Proofs.Ytbpgehaflbacmaa
