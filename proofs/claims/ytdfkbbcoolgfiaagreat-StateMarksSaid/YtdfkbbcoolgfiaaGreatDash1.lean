/- root.Floor, and the numbers of layer 35: near, Long, over, May. -/
import Derived.Test.YtdfkbbcoolgfiaaGreatMNum
import Derived.Test.YtdfkbbcoolgfiaaGreatMMay
import Derived.Test.YtdfkbbcoolgfiaaGreatMDp
namespace Go.Proofs.YtdfkbbcoolgfiaaGreat
open Go.RowKit

theorem flr_or (n : Int) (h0 : 0 ≤ n) (hn : n < 18446744073709551616) (k : Nat) (hk : k < 32) :
    bits BinOp.or IntKind.u64 (flrTo n k) (IntKind.u64.wrap (2 ^ (31 - k))) = flrTo n k + 2 ^ (31 - k) ∧
    IntKind.u64.wrap ((flrTo n k + 2 ^ (31 - k)) * (flrTo n k + 2 ^ (31 - k))) = (flrTo n k + 2 ^ (31 - k)) * (flrTo n k + 2 ^ (31 - k)) := by
  obtain ⟨m, h1, h2, h3, h4, h5⟩ := flrTo_inv n h0 hn k (by omega)
  have e1 : 32 - k = (31 - k) + 1 := by omega
  have ep : (2 : Int) ^ (31 - k) * 2 ^ (k + 1) = 4294967296 := by rw [← Int.pow_add, show 31 - k + (k + 1) = 32 by omega]; rfl
  have e3 : (2 : Int) ^ (32 - k) = 2 * 2 ^ (31 - k) := by rw [e1, Int.pow_succ]; omega
  have e4 : (2 : Int) ^ (k + 1) = 2 * 2 ^ k := by rw [Int.pow_succ]; omega
  have hp := two_pos (31 - k)
  have hq := two_pos k
  have hle : (2 : Int) ^ (31 - k) * 2 ≤ 2 ^ (31 - k) * 2 ^ (k + 1) := Int.mul_le_mul_of_nonneg_left (by omega) (by omega)
  have hm : (m + 1) * (2 * 2 ^ (31 - k)) ≤ 2 ^ k * (2 * 2 ^ (31 - k)) := Int.mul_le_mul_of_nonneg_right h3 (by omega)
  have hr := flrTo_nonneg n k
  have hb : flrTo n k + 2 * 2 ^ (31 - k) ≤ 4294967296 := by
    rw [h1, e3]
    have a : (m + 1) * (2 * 2 ^ (31 - k)) = m * (2 * 2 ^ (31 - k)) + 2 * 2 ^ (31 - k) := by grind
    have b : (2 : Int) ^ k * (2 * 2 ^ (31 - k)) = 2 ^ (31 - k) * 2 ^ (k + 1) := by rw [e4]; grind
    omega
  have hw : IntKind.u64.wrap (2 ^ (31 - k)) = 2 ^ (31 - k) := by rw [IntKind.wrap_u64]; exact Int.emod_eq_of_lt (by omega) (by omega)
  constructor
  · rw [hw, u64_or _ _ hr (by omega) (by omega) (by omega)]
    have x1 : ((2 : Int) ^ (31 - k)).toNat = 2 ^ (31 - k) := by
      have : ((2 ^ (31 - k) : Nat) : Int) = (2 : Int) ^ (31 - k) := by simp
      omega
    have x2 : (flrTo n k).toNat = m.toNat * 2 ^ (32 - k) := by
      rw [h1]
      have : ((m.toNat * 2 ^ (32 - k) : Nat) : Int) = m * (2 : Int) ^ (32 - k) := by rw [Int.natCast_mul, Int.toNat_of_nonneg h2]; simp
      omega
    rw [x1, nat_join (32 - k) _ _ (by rw [x2, Nat.mul_mod_left]) (Nat.pow_lt_pow_right (by omega) (by omega)), Int.natCast_add, Int.toNat_of_nonneg hr]
    simp
  · rw [IntKind.wrap_u64]
    have := sq_bd (a := flrTo n k + 2 ^ (31 - k)) (A := 4294967295) (by omega)
    exact Int.emod_eq_of_lt (by omega) (by omega)

set_option maxHeartbeats 400000 in
theorem root_Floor_any (n : Int) (w : World) (h0 : 0 ≤ n) (hn : n < 18446744073709551616) :
    Calls Tryz.prog 70 #[.int .u64 n] w fun e w' => e = .returned (.int .u64 (flr n)) ∧ w = w' := by
  have H : ∀ k : Nat, k < 32 → _ := flr_or n h0 hn
  have HH := Lib.hid H
  clear H
  have hN : Hid (n < 18446744073709551616) := hn
  clear hn
  go_enter Tryz.func70, Tryz.ntmps70
  go_wp2
  go_loop [3, 6] (fun r i => ∃ k : Nat, k ≤ 32 ∧ i = .int .i64 k ∧ r = .int .u64 (flrTo n k)) (fun _ i => 32 - (intOf i).toNat)
  case atStart => exact ⟨0, by omega, rfl, rfl⟩
  case round =>
    obtain ⟨k, hk, rfl, rfl⟩ := hrel
    by_cases hlt : k < 32
    · have hk1 : (k : Int) < 32 := by omega
      obtain ⟨g1, g2⟩ := HH.out k hlt
      have G1 := Lib.hid g1
      have G2 := Lib.hid g2
      clear g1 g2
      have hs : flrTo n (k + 1) = if (flrTo n k + 2 ^ (31 - k)) * (flrTo n k + 2 ^ (31 - k)) ≤ n then flrTo n k + 2 ^ (31 - k) else flrTo n k := rfl
      have HS := Lib.hid hs
      clear hs
      go_wp2
      all_goals
        rename_i hc
        rw [G1.out, G2.out] at hc
        go_round
        case rel => first | exact ⟨k + 1, by omega, by go_num, by rw [G1.out, HS.out, if_pos hc]⟩ | exact ⟨k + 1, by omega, by go_num, by rw [HS.out, if_neg (by omega)]⟩
        case measure => simp [intOf]; omega
    · obtain rfl : k = 32 := by omega
      go_wp2
      go_ret
      exact ⟨rfl, rfl⟩

theorem over_facts2 (v m : Int) (hv : -600000000 ≤ v ∧ v ≤ 600000000) (hm : 1 ≤ m ∧ m ≤ 30000) :
    (-600000000 ≤ v.tdiv m ∧ v.tdiv m ≤ 600000000) ∧ (-700000000 ≤ v.tdiv m * m ∧ v.tdiv m * m ≤ 700000000) ∧ (-700000000 ≤ (v.tdiv m - 1) * m ∧ (v.tdiv m - 1) * m ≤ 700000000) := by
  obtain ⟨h1, h2, _, _⟩ := tmod_emod v m (by omega)
  have ha := Int.mul_tdiv_add_tmod v m
  have hb : v.tdiv m * m = v - v.tmod m := by rw [Int.mul_comm]; omega
  have hc : (v.tdiv m - 1) * m = v.tdiv m * m - m := by rw [Int.sub_mul, Int.one_mul]
  have hd : -600000000 ≤ v.tdiv m ∧ v.tdiv m ≤ 600000000 := by
    constructor
    · apply Decidable.byContradiction; intro h
      have : m * v.tdiv m ≤ m * (-600000001) := Int.mul_le_mul_of_nonneg_left (by omega) (by omega)
      omega
    · apply Decidable.byContradiction; intro h
      have : m * 600000001 ≤ m * v.tdiv m := Int.mul_le_mul_of_nonneg_left (by omega) (by omega)
      omega
  omega

set_option maxHeartbeats 400000 in
theorem dash_over_any (v m : Int) (w : World) (hv : -600000000 ≤ v ∧ v ≤ 600000000) (hm : 1 ≤ m ∧ m ≤ 30000) :
    Calls Tryz.prog 174 #[.int .i64 v, .int .i64 m] w fun e w' => e = .returned (.int .i64 (rnd v m)) ∧ w = w' := by
  obtain ⟨⟨b1, b2⟩, ⟨b3, b4⟩, b5, b6⟩ := over_facts2 v m hv hm
  obtain ⟨k1, k2⟩ := tdiv_floor v m (by omega)
  have K1 := Lib.hid k1
  have K2 := Lib.hid k2
  clear k1 k2
  obtain ⟨ha, hb⟩ := hv
  obtain ⟨hc, hd⟩ := hm
  by_cases ht : v.tmod m < 0
  · go_enter Tryz.func174, Tryz.ntmps174
    go_wp2
    all_goals (go_ret; refine ⟨ret_int ?_, rfl⟩; go_light)
    all_goals first
      | (refine over_lo (K1.out ht) (by omega) (by omega) ?_ rfl; first | exact .inl (by assumption) | exact .inr (by assumption))
      | (refine over_hi (K1.out ht) (by omega) ?_ (by omega); first | exact .inl (by assumption) | exact .inr ⟨by assumption, by assumption⟩)
  · go_enter Tryz.func174, Tryz.ntmps174
    go_wp2
    all_goals (go_ret; refine ⟨ret_int ?_, rfl⟩; go_light)
    all_goals first
      | (refine over_lo (K2.out ht) (by omega) (by omega) ?_ rfl; first | exact .inl (by assumption) | exact .inr (by assumption))
      | (refine over_hi (K2.out ht) (by omega) ?_ (by omega); first | exact .inl (by assumption) | exact .inr ⟨by assumption, by assumption⟩)

set_option maxHeartbeats 400000 in
theorem dash_near_any (A : Option Addr) (n c : Nat) (zs : List Int) (w : World) (hm : n ≤ 1000000) (h : Sl w 1 A n (ints zs)) :
    Calls Tryz.prog 173 #[.slice A n c] w fun e w' => e = .returned (.bool (nearB zs)) ∧ w = w' := by
  have hl : zs.length = n := by have := h.1; simpa [ints] using this
  go_enter Tryz.func173, Tryz.ntmps173
  go_wp2
  go_loop [7] (fun i => ∃ k : Nat, k ≤ n ∧ i = .int .i64 k ∧ Hid (nearB (zs.take k) = true)) (fun i => n - (intOf i).toNat)
  case atStart => exact ⟨0, Nat.zero_le _, rfl, by simp [nearB, Hid]⟩
  case round =>
    obtain ⟨k, hk, rfl, hn⟩ := hrel
    by_cases hlt : k < n
    · obtain ⟨b, off, rfl, hb, hc⟩ := h.2 (by omega)
      obtain ⟨z, hz⟩ : ∃ z, z = zs[k]'(by omega) := ⟨_, rfl⟩
      have hx : w.cell? ⟨b, off + k, none⟩ = some (.int .i64 z) := hc k _ (by simp [ints, hz, List.getElem?_eq_getElem (show k < zs.length by omega)])
      have HZ := Lib.hid hz
      clear hc hz
      go_wp2
      all_goals first
        | (go_ret; refine ⟨ret_bool ?_, rfl⟩; rw [nearB_out zs k (by omega) (by rw [← HZ.out]; exact co_no (by omega))])
        | (go_round
           case rel => exact ⟨k + 1, by omega, by go_num, by show nearB _ = true; rw [nearB_take zs k (by omega), hn.out, ← HZ.out, co_iff.2 (by omega)]; rfl⟩
           case measure => simp [intOf]; omega)
    · go_wp2
      go_ret
      refine ⟨ret_bool ?_, rfl⟩
      have := hn.out
      rw [List.take_of_length_le (by omega)] at this
      exact this.symm

theorem conv_u64 (n : Int) (h0 : 0 ≤ n) (hn : n < 18446744073709551616) : IntKind.u64.wrap n = n := by rw [IntKind.wrap_u64]; exact Int.emod_eq_of_lt h0 hn

set_option maxHeartbeats 1000000 in
theorem dash_Long_is (e : Ed) (w : World) (h : Strt e) :
    Calls Tryz.prog 156 #[.agg #[.int .i64 e.x0, .int .i64 e.y0, .bool e.bent, .int .i64 e.cx, .int .i64 e.cy, .int .i64 e.x1, .int .i64 e.y1]] w
      fun r w' => r = .returned (.int .i64 (lenE e)) ∧ ∃ q, ((w.alloc (.cells #[.int .i64 e.x0, .int .i64 e.y0, .bool e.bent, .int .i64 e.cx, .int .i64 e.cy, .int .i64 e.x1, .int .i64 e.y1] 112)).alloc (.cells #[.int .i64 e.x0, .int .i64 e.y0, .int .i64 e.x1, .int .i64 e.y1] 3)).drewN q = w' := by
  obtain ⟨hb, hok⟩ := h
  obtain ⟨⟨a0, a1⟩, ⟨a2, a3⟩, -, -, ⟨a4, a5⟩, ⟨a6, a7⟩, -⟩ := edOK_iff.1 hok
  obtain ⟨q0, q1, ⟨q2, q3⟩, q4, q5⟩ := sqE_bd hok
  obtain ⟨l0, l1⟩ := lenE_bd hok
  have hn : nearB [e.x0, e.y0, e.x1, e.y1] = true := by simp [nearB, co]; omega
  have HN := Lib.hid hn
  have HB := Lib.hid hb
  have hs : (e.x1 - e.x0) * (e.x1 - e.x0) + (e.y1 - e.y0) * (e.y1 - e.y0) = sqE e := rfl
  have HS := Lib.hid hs
  have HL : Hid (flr (sqE e) = lenE e) := rfl
  have hl0 : 0 ≤ flr (sqE e) := l0
  have hl1 : flr (sqE e) ≤ 23167 := l1
  clear hn hs l0 l1
  go_enter Tryz.func156, Tryz.ntmps156
  go_wp2_with (go_at_call 173; refine (dash_near_any _ _ _ [e.x0, e.y0, e.x1, e.y1] _ (by omega) ?_).mono ?_; rotate_left; rintro e' w' ⟨rfl, rfl⟩; rw [HN.out])
  · go_quiet (fail)
    go_wp2_with (go_at_call 70; rw [HS.out]; refine (root_Floor_any _ _ (by omega) (by omega)).mono ?_; rintro e' w' ⟨rfl, rfl⟩)
    go_ret
    exact ⟨rfl, _, by rw [HB.out]⟩
  · exact sl_new (ints [e.x0, e.y0, e.x1, e.y1]) (by simp) rfl
theorem dash_Long_any (e : Ed) (w : World) (h : Strt e) :
    Calls Tryz.prog 156 #[.agg #[.int .i64 e.x0, .int .i64 e.y0, .bool e.bent, .int .i64 e.cx, .int .i64 e.cy, .int .i64 e.x1, .int .i64 e.y1]] w
      fun r w' => r = .returned (.int .i64 (lenE e)) ∧ Below w.heap.size w w' :=
  (dash_Long_is e w h).mono fun _ _ ⟨he, _, hw⟩ => ⟨he, hw ▸ bdrewN (bal (bal (Below.refl _ _) _) _) _⟩

theorem ints_len (zs : List Int) : (ints zs).length = zs.length := by simp [ints]
theorem sum_take (on : List Int) (k : Nat) (h : k < on.length) : (on.take (k + 1)).sum = (on.take k).sum + on[k] := by
  rw [List.take_succ_eq_append_getElem h, List.sum_append]; simp
theorem sum_bd {on : List Int} (h0 : ∀ v ∈ on, 0 ≤ v) (h1 : ∀ v ∈ on, v ≤ 32767) : ∀ k, k ≤ on.length → 0 ≤ (on.take k).sum ∧ (on.take k).sum ≤ 32767 * k
  | 0, _ => by simp
  | k + 1, hk => by
    have := sum_bd h0 h1 k (by omega)
    have hm := List.getElem_mem (l := on) (n := k) hk
    have := h0 _ hm
    have := h1 _ hm
    rw [sum_take on k hk]; omega
/-- The k-th number of a slice of numbers. -/
theorem Sl.intAt {w : World} {A : Option Addr} {n : Nat} {zs : List Int} (h : Sl w 1 A n (ints zs)) (k : Nat) (hk : k < n) (hl : k < zs.length) :
    ∃ b off : Nat, A = some ⟨b, off, none⟩ ∧ b < w.heap.size ∧ w.cell? ⟨b, off + k, none⟩ = some (.int .i64 zs[k]) := by
  obtain ⟨b, off, e, hb, hc⟩ := h.2 (by omega)
  exact ⟨b, off, e, hb, hc k _ (by simp [ints, List.getElem?_eq_getElem hl])⟩
theorem Sl.intlen {w : World} {A : Option Addr} {n : Nat} {zs : List Int} (h : Sl w 1 A n (ints zs)) : zs.length = n := by have := h.1; rw [ints_len] at this; omega

set_option maxHeartbeats 400000 in
theorem dash_May_nil (c : Nat) (A : Option Addr) (w : World) : Calls Tryz.prog 122 #[.slice A 0 c] w fun e w' => e = .returned (.bool true) ∧ w = w' := by
  go_enter Tryz.func122, Tryz.ntmps122
  go_wp2
  go_loop [3, 11] (fun s i => s = .int .i64 0 ∧ i = .int .i64 0) (fun _ _ => 0)
  case atStart => exact ⟨rfl, rfl⟩
  case round =>
    obtain ⟨rfl, rfl⟩ := hrel
    go_wp2
    go_ret
    exact ⟨rfl, rfl⟩

set_option maxHeartbeats 400000 in
theorem dash_May_any (A : Option Addr) (n c : Nat) (on : List Int) (w : World) (h : Sl w 1 A n (ints on)) (hr : Row on) (hn : on.length ≤ 11) :
    Calls Tryz.prog 122 #[.slice A n c] w fun e w' => e = .returned (.bool true) ∧ w = w' := by
  have hl := h.intlen
  have hs := hr.some
  have hb := Lib.hid (fun k => sum_bd hr.nonneg hr.most k)
  have h0 := hr.len
  go_enter Tryz.func122, Tryz.ntmps122
  go_wp2
  go_loop [3, 11] (fun s i => ∃ k : Nat, k ≤ n ∧ i = .int .i64 k ∧ s = .int .i64 (on.take k).sum) (fun _ i => n - (intOf i).toNat)
  case atStart => exact ⟨0, by omega, rfl, rfl⟩
  case round =>
    obtain ⟨k, hk, rfl, rfl⟩ := hrel
    obtain ⟨b0, b1⟩ := hb.out k (by omega)
    by_cases hlt : k < n
    · have hkl : k < on.length := by omega
      obtain ⟨b, off, rfl, hb, c0⟩ := h.intAt k hlt hkl
      have v0 := hr.nonneg _ (List.getElem_mem hkl)
      have v1 := hr.most _ (List.getElem_mem hkl)
      have hst := sum_take on k hkl
      obtain ⟨z, hz⟩ : ∃ z, z = on[k] := ⟨_, rfl⟩
      rw [← hz] at c0 v0 v1 hst
      have HST := Lib.hid hst
      clear hst hz
      go_wp2
      go_round
      case rel => exact ⟨k + 1, by omega, by go_num, by rw [HST.out]⟩
      case measure => simp [intOf]; omega
    · obtain rfl : k = n := by omega
      have ht : on.take k = on := List.take_of_length_le (by omega)
      rw [ht] at b0 b1 ⊢
      have hk0 : ((k : Int) == 0) = false := by simp; omega
      go_wp2
      go_ret
      exact ⟨by simp, rfl⟩

set_option maxHeartbeats 400000 in
theorem dash_plain_any (A : Option Addr) (n c : Nat) (l : List Sg) (w : World) (hm : n ≤ 1000000) (h : Sl w 5 A n (sgs l)) (hok : mayB l = true) (hb : ∀ s ∈ l, s.kind ≠ 3) :
    Calls Tryz.prog 121 #[.slice A n c] w fun e w' => e = .returned (.bool true) ∧ Below w.heap.size w w' := by
  have hl := h.sglen
  have HB := Lib.hid hb
  have HOK := Lib.hid hok
  clear hb hok
  go_enter Tryz.func121, Tryz.ntmps121
  go_wp2
  go_loopw [7] (fun i wr => ∃ k : Nat, k ≤ n ∧ i = .int .i64 k ∧ Below w.heap.size w wr) (fun i _ => n - (intOf i).toNat)
  case atStart => exact ⟨0, by omega, rfl, Below.refl _ _⟩
  case round =>
    obtain ⟨k, hk, rfl, hbw⟩ := hrel
    by_cases hlt : k < n
    · have hkl : k < l.length := by omega
      obtain ⟨b, off, rfl, hbl, c0, c1, c2, c3, c4⟩ := (h.below hbw).sg k hlt hkl
      have hk3 := HB.out _ (List.getElem_mem hkl)
      obtain ⟨sk, hsk⟩ : ∃ s, s = l[k] := ⟨_, rfl⟩
      rw [← hsk] at c0 c1 c2 c3 c4 hk3
      have hk3' : (sk.kind == 3) = false := by simpa using hk3
      clear hsk hk3
      go_wp2
      go_roundw
      case rel => exact ⟨k + 1, by omega, by go_num, bal hbw _⟩
      case measure => simp [intOf]; omega
    · obtain rfl : k = n := by omega
      go_wp2_with (go_at_call 57; refine (path_May_any _ _ _ l _ hm (h.below hbw)).mono ?_; rintro e w2 ⟨rfl, hb2⟩; rw [HOK.out])
      go_ret
      exact ⟨rfl, btr hbw hb2⟩
end Go.Proofs.YtdfkbbcoolgfiaaGreat
