/- The reference's numbers of layer 35: Floor, Near, Long, MayDash, Straight. -/
import Derived.Test.YtdfkbbcoolgfiaaGreatDash1
import Derived.Test.YtdfkbbcoolgfiaaGreatMRM
namespace Go.Proofs.YtdfkbbcoolgfiaaGreat
open Go.RowKit

theorem tmod_sign2 (v n : Int) (_hn : 0 < n) : (0 ≤ v → 0 ≤ v.tmod n) ∧ (v < 0 → v.tmod n ≤ 0) := by
  refine ⟨fun h => Int.tmod_nonneg _ h, fun h => ?_⟩
  have := Int.tmod_nonneg n (a := -v) (by omega)
  rw [Int.neg_tmod] at this
  omega

set_option maxHeartbeats 400000 in
theorem Div_any2 (a d : Int) (w : World) (ha : -600000000 ≤ a ∧ a ≤ 600000000) (hd : 1 ≤ d ∧ d ≤ 30000) :
    Calls Tryz.prog 175 #[.int .i64 a, .int .i64 d] w fun e w' => e = .returned (.int .i64 (a / d)) ∧ w = w' := by
  obtain ⟨⟨b1, b2⟩, _⟩ := over_facts2 a d ha hd
  obtain ⟨k1, k2⟩ := tdiv_floor a d (by omega)
  obtain ⟨s1, s2⟩ := tmod_sign2 a d (by omega)
  have K1 := Lib.hid k1
  have K2 := Lib.hid k2
  clear k1 k2
  obtain ⟨ha1, ha2⟩ := ha
  obtain ⟨hd1, hd2⟩ := hd
  have hd0 : ¬ d < 0 := by omega
  have hdf : decide (d < 0) = false := by simp; omega
  by_cases ht : a.tmod d < 0
  · have han : a < 0 := by
      apply Decidable.byContradiction; intro h; have := s1 (by omega); omega
    have hab : decide (a < 0) = true := by simpa using han
    have htn : (a.tmod d != 0) = true := by simp; omega
    clear s1 s2
    go_enter Tryz.func175, Tryz.ntmps175
    go_wp2
    go_ret
    exact ⟨ret_int (K1.out ht), rfl⟩
  · by_cases h0 : 0 ≤ a
    · have hab : decide (a < 0) = false := by simpa using h0
      have han : ¬ a < 0 := by omega
      clear s1 s2
      go_enter Tryz.func175, Tryz.ntmps175
      go_wp2
      all_goals (go_ret; exact ⟨ret_int (K2.out ht), rfl⟩)
    · have htn : (a.tmod d != 0) = false := by have := s2 (by omega); simp; omega
      clear s1 s2
      go_enter Tryz.func175, Tryz.ntmps175
      go_wp2
      all_goals (go_ret; exact ⟨ret_int (K2.out ht), rfl⟩)

theorem near_facts2 (v m : Int) (hv : -600000000 ≤ v ∧ v ≤ 600000000) (hm : 1 ≤ m ∧ m ≤ 30000) :
    (-600000001 ≤ v / m ∧ v / m ≤ 600000000) ∧ (-700000000 ≤ v / m * m ∧ v / m * m ≤ 700000000) ∧ v - v / m * m = v % m ∧ 0 ≤ v % m ∧ v % m < m := by
  have hb := Int.mul_ediv_add_emod v m
  have h2 := Int.emod_nonneg v (show m ≠ 0 by omega)
  have h3 := Int.emod_lt_of_pos v (show 0 < m by omega)
  have hc : v / m * m = v - v % m := by rw [Int.mul_comm]; omega
  have hd : -600000001 ≤ v / m ∧ v / m ≤ 600000000 := by
    constructor
    · apply Decidable.byContradiction; intro h
      have : m * (v / m) ≤ m * (-600000002) := Int.mul_le_mul_of_nonneg_left (by omega) (by omega)
      omega
    · apply Decidable.byContradiction; intro h
      have : m * 600000001 ≤ m * (v / m) := Int.mul_le_mul_of_nonneg_left (by omega) (by omega)
      omega
  omega

set_option maxHeartbeats 400000 in
theorem Near_any2 (v m : Int) (w : World) (hv : -600000000 ≤ v ∧ v ≤ 600000000) (hm : 1 ≤ m ∧ m ≤ 30000) :
    Calls Tryz.prog 159 #[.int .i64 v, .int .i64 m] w fun e w' => e = .returned (.int .i64 (rnd v m)) ∧ w = w' := by
  obtain ⟨⟨b1, b2⟩, ⟨b3, b4⟩, e, e1, e2⟩ := near_facts2 v m hv hm
  obtain ⟨q, hq⟩ : ∃ q, q = v / m := ⟨_, rfl⟩
  rw [← hq] at b1 b2 b3 b4 e
  have D := Lib.hid (show ∀ W, Calls Tryz.prog 175 #[.int .i64 v, .int .i64 m] W fun e w' => e = .returned (.int .i64 q) ∧ W = w' from fun W => hq ▸ Div_any2 v m W hv hm)
  have HQ := Lib.hid hq
  have e3 : 0 ≤ v - q * m ∧ v - q * m < m := by omega
  obtain ⟨e3, e4⟩ := e3
  clear hq e e1 e2
  obtain ⟨ha1, ha2⟩ := hv
  obtain ⟨hd1, hd2⟩ := hm
  go_enter Tryz.func159, Tryz.ntmps159
  go_wp2_with (go_at_call 175; refine (D.out _).mono ?_; rintro e w' ⟨rfl, rfl⟩)
  all_goals (go_ret; refine ⟨ret_int ?_, rfl⟩; go_light)
  all_goals first
    | (refine over_lo HQ.out (by omega) (by omega) ?_ rfl; first | exact .inl (by assumption) | exact .inr (by assumption))
    | (refine over_hi HQ.out (by omega) ?_ (by omega); first | exact .inl (by assumption) | exact .inr ⟨by assumption, by assumption⟩)
set_option maxHeartbeats 400000 in
theorem ref_Floor_any (n : Int) (w : World) (h0 : 0 ≤ n) (hn : n < 18446744073709551616) :
    Calls Tryz.prog 75 #[.int .u64 n] w fun e w' => e = .returned (.int .u64 (flr n)) ∧ w = w' := by
  have H : ∀ k : Nat, k < 32 → _ := flr_or n h0 hn
  have HH := Lib.hid H
  clear H
  have hN : Hid (n < 18446744073709551616) := hn
  clear hn
  go_enter Tryz.func75, Tryz.ntmps75
  go_wp2
  go_loop [3, 4] (fun r i => ∃ (k : Nat) (v : Int), k ≤ 32 ∧ i = .int .i64 v ∧ -1 ≤ v ∧ v ≤ 31 ∧ Hid (v = 31 - k) ∧ r = .int .u64 (flrTo n k)) (fun _ i => (intOf i + 1).toNat)
  case atStart => exact ⟨0, 31, by omega, rfl, by omega, by omega, by show _ = _; omega, rfl⟩
  case round =>
    obtain ⟨k, v, hk, rfl, hv0, hv1, hv, rfl⟩ := hrel
    by_cases hlt : k < 32
    · obtain ⟨g1, g2⟩ := HH.out k hlt
      have hvn : 0 ≤ v := by have := hv.out; omega
      obtain ⟨u, rfl⟩ : ∃ u : Nat, v = u := ⟨v.toNat, by omega⟩
      have hu : 31 - k = u := by have := hv.out; omega
      rw [hu] at g1 g2
      have G1 := Lib.hid g1
      have G2 := Lib.hid g2
      have hs : flrTo n (k + 1) = if (flrTo n k + 2 ^ u) * (flrTo n k + 2 ^ u) ≤ n then flrTo n k + 2 ^ u else flrTo n k := by rw [← hu]; rfl
      have HS := Lib.hid hs
      have HU := Lib.hid hu
      clear hs g1 g2 hu
      go_wp2
      all_goals
        rename_i hc
        rw [G1.out, G2.out] at hc
        go_round
        case rel => first
          | exact ⟨k + 1, (u : Int) - 1, by omega, rfl, by omega, by omega, by have := HU.out; show _ = _; omega, by rw [G1.out, HS.out, if_pos hc]⟩
          | exact ⟨k + 1, (u : Int) - 1, by omega, rfl, by omega, by omega, by have := HU.out; show _ = _; omega, by rw [HS.out, if_neg (by omega)]⟩
        case measure => simp [intOf] <;> omega
    · obtain rfl : k = 32 := by omega
      have hvn : v < 0 := by have := hv.out; omega
      go_wp2
      go_ret
      exact ⟨rfl, rfl⟩

set_option maxHeartbeats 1000000 in
theorem ref_Long_is (e : Ed) (w : World) (h : Strt e) :
    Calls Tryz.prog 130 #[.agg #[.int .i64 e.x0, .int .i64 e.y0, .bool e.bent, .int .i64 e.cx, .int .i64 e.cy, .int .i64 e.x1, .int .i64 e.y1]] w
      fun r w' => r = .returned (.int .i64 (lenE e)) ∧ ∃ q, (w.alloc (.cells #[.int .i64 e.x0, .int .i64 e.y0, .bool e.bent, .int .i64 e.cx, .int .i64 e.cy, .int .i64 e.x1, .int .i64 e.y1] 112)).drewN q = w' := by
  obtain ⟨hb, hok⟩ := h
  obtain ⟨⟨a0, a1⟩, ⟨a2, a3⟩, -, -, ⟨a4, a5⟩, ⟨a6, a7⟩, -⟩ := edOK_iff.1 hok
  obtain ⟨q0, q1, ⟨q2, q3⟩, q4, q5⟩ := sqE_bd hok
  obtain ⟨l0, l1⟩ := lenE_bd hok
  have n1 : co e.x0 = true := by simp [co]; omega
  have n2 : co e.y0 = true := by simp [co]; omega
  have n3 : co e.x1 = true := by simp [co]; omega
  have n4 : co e.y1 = true := by simp [co]; omega
  have hs : (e.x1 - e.x0) * (e.x1 - e.x0) + (e.y1 - e.y0) * (e.y1 - e.y0) = sqE e := rfl
  have HS := Lib.hid hs
  have HB := Lib.hid hb
  have HL : Hid (flr (sqE e) = lenE e) := rfl
  have hl0 : 0 ≤ flr (sqE e) := l0
  have hl1 : flr (sqE e) ≤ 23167 := l1
  clear hs l0 l1
  go_enter Tryz.func130, Tryz.ntmps130
  go_wp2_with (go_at_call 99; refine (IsCoord_any _ _).mono ?_; rintro e' w' ⟨rfl, rfl⟩)
  go_quiet (fail)
  go_wp2_with (go_at_call 75; rw [HS.out]; refine (ref_Floor_any _ _ (by omega) (by omega)).mono ?_; rintro e' w' ⟨rfl, rfl⟩)
  go_ret
  exact ⟨rfl, _, by rw [HB.out]⟩
theorem ref_Long_any (e : Ed) (w : World) (h : Strt e) :
    Calls Tryz.prog 130 #[.agg #[.int .i64 e.x0, .int .i64 e.y0, .bool e.bent, .int .i64 e.cx, .int .i64 e.cy, .int .i64 e.x1, .int .i64 e.y1]] w
      fun r w' => r = .returned (.int .i64 (lenE e)) ∧ Below w.heap.size w w' :=
  (ref_Long_is e w h).mono fun _ _ ⟨he, _, hw⟩ => ⟨he, hw ▸ bdrewN (bal (Below.refl _ _) _) _⟩

/-- The greatest so far. -/
def maxTo (on : List Int) (k : Nat) : Int := (on.take k).foldl max 0
theorem maxTo_succ (on : List Int) (k : Nat) (h : k < on.length) : maxTo on (k + 1) = max (maxTo on k) on[k] := by
  unfold maxTo; rw [List.take_succ_eq_append_getElem h, List.foldl_append]; rfl
theorem maxTo_bd {on : List Int} (h0 : ∀ v ∈ on, v ≤ 32767) : ∀ k, k ≤ on.length → 0 ≤ maxTo on k ∧ maxTo on k ≤ 32767
  | 0, _ => by simp [maxTo]
  | k + 1, hk => by
    have := maxTo_bd h0 k (by omega)
    have := h0 _ (List.getElem_mem (show k < on.length by omega))
    rw [maxTo_succ on k (by omega)]; omega
theorem maxTo_ge {on : List Int} : ∀ k, k ≤ on.length → ∀ j (_ : j < k) (h : j < on.length), on[j] ≤ maxTo on k
  | 0, _, j, hj, _ => by omega
  | k + 1, hk, j, hj, h => by
    rw [maxTo_succ on k (by omega)]
    by_cases he : j = k
    · subst he; omega
    · have := maxTo_ge k (by omega) j (by omega) h; omega
theorem maxTo_pos {on : List Int} (h : Row on) : 0 < maxTo on on.length := by
  apply Decidable.byContradiction; intro hc
  have hz : ∀ v ∈ on, v = 0 := fun v hv => by
    obtain ⟨j, hj, rfl⟩ := List.getElem_of_mem hv
    have h1 := maxTo_ge on.length (Nat.le_refl _) j hj hj
    have h2 := h.nonneg _ hv
    omega
  have hs : ∀ l : List Int, (∀ v ∈ l, v = 0) → l.sum = 0 := by
    intro l
    induction l with
    | nil => simp
    | cons a l ih => intro hh; rw [List.sum_cons, hh a (by simp), ih (fun v hv => hh v (by simp [hv]))]; rfl
  have := h.some
  rw [hs on hz] at this; omega

set_option maxHeartbeats 400000 in
theorem ref_MayDash_any (A : Option Addr) (n c : Nat) (on : List Int) (w : World) (h : Sl w 1 A n (ints on)) (hr : Row on) (hn : on.length ≤ 11) :
    Calls Tryz.prog 78 #[.slice A n c] w fun e w' => e = .returned (.bool true) ∧ w = w' := by
  have hl := h.intlen
  have hb := Lib.hid (fun k => maxTo_bd hr.most k)
  have hp := maxTo_pos hr
  rw [hl] at hp
  have h0 := hr.len
  go_enter Tryz.func78, Tryz.ntmps78
  go_wp2
  go_loop [3, 4] (fun s i => ∃ k : Nat, k ≤ n ∧ i = .int .i64 k ∧ s = .int .i64 (maxTo on k)) (fun _ i => n - (intOf i).toNat)
  case atStart => exact ⟨0, by omega, rfl, rfl⟩
  case round =>
    obtain ⟨k, hk, rfl, rfl⟩ := hrel
    obtain ⟨b0, b1⟩ := hb.out k (by omega)
    by_cases hlt : k < n
    · have hkl : k < on.length := by omega
      obtain ⟨b, off, rfl, hbb, c0⟩ := h.intAt k hlt hkl
      have v0 := hr.nonneg _ (List.getElem_mem hkl)
      have v1 := hr.most _ (List.getElem_mem hkl)
      have hst := maxTo_succ on k hkl
      obtain ⟨z, hz⟩ : ∃ z, z = on[k] := ⟨_, rfl⟩
      obtain ⟨mk, hmk⟩ : ∃ mk, mk = maxTo on k := ⟨_, rfl⟩
      rw [← hz] at c0 v0 v1 hst
      rw [← hmk] at hst b0 b1 ⊢
      have HST := Lib.hid hst
      clear hst hz hmk
      go_wp2
      all_goals
        go_round
        case rel => exact ⟨k + 1, by omega, by go_num, by rw [HST.out]; first | rfl | (congr 1; omega)⟩
        case measure => simp [intOf]; omega
    · obtain rfl : k = n := by omega
      have hk0 : ((k : Int) == 0) = false := by simp; omega
      have hp' : 0 < maxTo on k := hp
      generalize maxTo on k = mk at *
      go_wp2
      go_ret
      exact ⟨by simp, rfl⟩

set_option maxHeartbeats 400000 in
theorem ref_Straight_any (A : Option Addr) (n c : Nat) (l : List Sg) (w : World) (hm : n ≤ 1000000) (h : Sl w 5 A n (sgs l)) (hok : mayB l = true) (hb : ∀ s ∈ l, s.kind ≠ 3) :
    Calls Tryz.prog 77 #[.slice A n c] w fun e w' => e = .returned (.bool true) ∧ Below w.heap.size w w' := by
  have hl := h.sglen
  have HB := Lib.hid hb
  have HOK := Lib.hid hok
  clear hb hok
  go_enter Tryz.func77, Tryz.ntmps77
  go_wp2_with (go_at_call 62; refine (ref_May_any _ _ _ l _ hm h).mono ?_; rintro e w2 ⟨rfl, hb2⟩; rw [HOK.out])
  have h2 := h.below hb2
  go_loop [3] (fun i => ∃ k : Nat, k ≤ n ∧ i = .int .i64 k) (fun i => n - (intOf i).toNat)
  case atStart => exact ⟨0, by omega, rfl⟩
  case round =>
    obtain ⟨k, hk, rfl⟩ := hrel
    by_cases hlt : k < n
    · have hkl : k < l.length := by omega
      obtain ⟨b, off, rfl, hbl, c0, c1, c2, c3, c4⟩ := h2.sg k hlt hkl
      have hk3 := HB.out _ (List.getElem_mem hkl)
      obtain ⟨sk, hsk⟩ : ∃ s, s = l[k] := ⟨_, rfl⟩
      rw [← hsk] at c0 hk3
      have hk3' : (sk.kind == 3) = false := by simpa using hk3
      clear hsk hk3 c1 c2 c3 c4
      go_wp2
      go_round
      case rel => exact ⟨k + 1, by omega, by go_num⟩
      case measure => simp [intOf]; omega
    · obtain rfl : k = n := by omega
      go_wp2
      go_ret
      exact ⟨rfl, hb2⟩

end Go.Proofs.YtdfkbbcoolgfiaaGreat
