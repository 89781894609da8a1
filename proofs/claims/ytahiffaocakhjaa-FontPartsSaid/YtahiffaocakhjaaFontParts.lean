/- FontParts: the walk. -/
import Derived.Test.YtahiffaocakhjaaMFt
import Derived.Test.YtahiffaocakhjaaFontXP
namespace Go.Proofs.Ytahiffaocakhjaa
open Go.RowKit Go.BigFrame

theorem bl_take (s : ByteArray) (j : Nat) : bl (s.extract 0 j) = (bl s).take j := by
  unfold bl
  rw [ByteArray.data_extract, Array.toList_extract]
  simp [List.extract, List.map_take]
theorem bl_drop2 (s : ByteArray) (j : Nat) : bl (s.extract j s.size) = (bl s).drop j := by
  unfold bl
  rw [ByteArray.data_extract, Array.toList_extract]
  have : s.size = s.data.toList.length := by rw [Array.length_toList]; rfl
  simp only [List.extract, List.map_take, List.map_drop]
  rw [List.take_of_length_le]
  rw [List.length_drop, List.length_map]; omega
theorem kernJ_eq (F : Fo) (s : List Nat) (j : Nat) (hj : 0 < j) (hj2 : j < s.length) : kernJ F (s.take j) (s.drop j) = kernF F (s[j - 1]?.getD 0) (s[j]?.getD 0) := by
  have h1 : s.drop j = s[j] :: s.drop (j + 1) := List.drop_eq_getElem_cons hj2
  have h2 : s.take j ≠ [] := by intro e; have := congrArg List.length e; rw [List.length_take, List.length_nil] at this; omega
  have h3 : (s.take j).getLastD 0 = s[j - 1]?.getD 0 := by
    rw [List.getLastD_eq_getLast?, List.getLast?_eq_getElem?, List.length_take, Nat.min_eq_left (by omega), List.getElem?_take_of_lt (by omega)]
  rw [h1]
  cases ht : s.take j with
  | nil => exact absurd ht h2
  | cons a t =>
    show kernF F ((a :: t).getLastD 0) s[j] = _
    rw [← ht, h3, List.getElem?_eq_getElem hj2]; rfl
theorem kernJ_nil (F : Fo) (s : List Nat) (j : Nat) (hj : ¬ (0 < j ∧ j < s.length)) : kernJ F (s.take j) (s.drop j) = 0 := by
  by_cases h0 : j = 0
  · subst h0; rfl
  · rw [List.drop_of_length_le (by omega)]
    cases s.take j <;> rfl
theorem cut_to {s : ByteArray} (j : Nat) (hj : j ≤ s.size) (W : World) : (Instr.slice 9 (.string s) none (some (.int .i64 (j : Int))) none).run Try.prog W = .ok (.string (s.extract 0 j)) W :=
  run_slice_string_h _ _ _ Try.underlying9 .i64 (j : Int) (by omega) (by omega)
theorem cut_from {s : ByteArray} (j : Nat) (hj : j ≤ s.size) (W : World) : (Instr.slice 9 (.string s) (some (.int .i64 (j : Int))) none none).run Try.prog W = .ok (.string (s.extract j s.size)) W :=
  run_slice_string_l _ _ _ Try.underlying9 .i64 (j : Int) (by omega) (by omega)
set_option maxRecDepth 100000 in
set_option maxHeartbeats 8000000 in
theorem FontParts_any (A : Option Addr) (n c : Nat) (A' : Option Addr) (n' c' : Nat) (at_ x : Int) (w : World) (h : InA w A n) (hnc : n ≤ c) (hcm : c ≤ 9223372036854775807)
    (h' : InA w A' n') (hnc' : n' ≤ c') (hcm' : c' ≤ 9223372036854775807) :
    Calls Try.prog 5 #[.slice A n c, .slice A' n' c', .int .i64 at_, .int .i64 x] w fun e w' => e = .returned (.bool true) ∧ Below w.heap.size w w' := by
  obtain ⟨zs, hz⟩ := h.sl
  obtain ⟨ts, ht⟩ := h'.sl
  have HMD := Lib.hid fun W (hb : Below w.heap.size w W) => Made41_any A n c zs W hnc hcm (hz.below hb)
  have HTX := Lib.hid fun W (hb : Below w.heap.size w W) => text_any A' n' c' ts W hnc' hcm' (ht.below hb)
  clear h h' hnc hcm hnc' hcm' hz ht
  go_enter Try.func5, Try.ntmps5
  go_wp2_with fail
  refine (known41_any _).mono ?_; rintro e w1 ⟨rfl, b1⟩
  go_wp2_with fail
  refine (HMD.out _ b1).mono ?_; rintro e w2 ⟨F, C, rfl, hFo, hMF, b2⟩
  have B2 := btr b1 b2
  go_wp2_with fail
  refine (HTX.out _ B2).mono ?_; rintro e w3 ⟨s, rfl, hbs, b3⟩
  have B3 := btr B2 b3
  go_wp2_with fail
  refine (matOne_any _).mono ?_; rintro e w4 ⟨rfl, b4⟩
  have B4 := btr B3 b4
  have hFo4 := (hFo.below b3).below b4
  have h9 := hFo4.len
  have h1c := one_foC hFo4
  obtain ⟨w5, w6, hw5, hw6, Z0, Z1, F6, M6, b6⟩ := put_FM (W := w4) oneM h9
  have HW5 := Lib.hid hw5
  have HW6 := Lib.hid hw6
  have hFo6 := hFo4.below b6
  have B6 := btr B4 b6
  have hvm : mtv oneM = .agg (mtC oneM).toArray := rfl
  rw [hvm]
  have hz1 : foZ.toArray = #[.int .i64 0, .int .i64 0, .int .i64 0, .int .i64 0, .int .i64 0, .int .i64 0, .slice none 0 0, .slice none 0 0, .slice none 0 0] := rfl
  have hz2 : (mtC zeroM).toArray = #[.int .i64 0, .int .i64 0, .int .i64 0, .int .i64 0, .int .i64 0, .int .i64 0] := rfl
  rw [hz1, hz2] at Z0 HW5
  clear hw5 hw6 hvm hz1 hz2 b1 b2 b3 b4 hFo hFo4 B2 B3
  go_wp2_with (first
    | (refine wpList_store_rec rfl _ _ _ rfl w4.heap.size C _ rfl rfl 9 foT Z0 rfl h9 h1c ?_; rw [← HW5.out])
    | (refine wpList_store_rec rfl _ _ _ rfl (w4.heap.size + 1) (mtC oneM) _ rfl rfl 6 matT2 Z1 rfl rfl (mtC_oneR _) ?_; rw [← HW6.out])
    | fail)
  obtain ⟨gM, hgM⟩ : ∃ g, g = w4.heap.size + 1 := ⟨_, rfl⟩
  rw [← hgM] at M6 ⊢
  obtain ⟨gF, hgF⟩ : ∃ g, g = w4.heap.size := ⟨_, rfl⟩
  rw [← hgF] at F6 ⊢
  clear hgM hgF Z0 Z1 HW5 HW6 b6 h1c
  obtain ⟨k, hk, hm⟩ := font_is hMF
  obtain ⟨p0, hp0, hp1, hp2⟩ := small_bd x
  have HSX := Lib.hid fun W => small_any x W
  rw [hp0] at HSX
  have HP := Lib.hid (show Bd 39 p0 by unfold Bd; omega)
  have HOW := Lib.hid (ow_one hMF hk hm (q := 0) (by unfold Bd; omega))
  have hs8 : s.size ≤ 8 := by have := textN_len ts; rw [← hbs, bl_len] at this; exact this
  have HLT : Hid (∀ b ∈ bl s, b < 3) := Lib.hid (by rw [hbs]; exact textN_lt ts)
  have HMA := Lib.hid hm
  have HFB := Lib.hid fun V (hV : Below w6.heap.size w6 V) => F6.below hV
  have HMB := Lib.hid fun V (hV : Below w6.heap.size w6 V) => M6.below hV
  have HFo := Lib.hid fun V (hV : Below w6.heap.size w6 V) => hFo6.below hV
  have HMF := Lib.hid hMF
  have hss : IntKind.i64.wrap (s.size : Int) = s.size := IntWalk.i64_in _ (by omega)
  obtain ⟨n8, hn8⟩ : ∃ n, s.size = n := ⟨_, rfl⟩
  have HN8 := Lib.hid hn8
  rw [hn8] at hs8
  clear hp0 hp1 hp2 hbs hm hk F6 M6 hFo6 hMF hn8 HMD HTX
  have HPL := Lib.hid fun W => Place_any at_ ((n8 : Int) + 1) W (by omega) (by omega)
  have hkr := placeI_range at_ ((n8 : Int) + 1) (by omega)
  obtain ⟨kc, hkc⟩ : ∃ z, placeI at_ ((n8 : Int) + 1) = z := ⟨_, rfl⟩
  rw [hkc] at HPL hkr
  obtain ⟨j, rfl⟩ : ∃ j : Nat, kc = j := ⟨kc.toNat, by omega⟩
  have hj : j ≤ n8 := by omega
  have hlw : IntKind.i64.wrap ((s.size : Int) + 1) = (n8 : Int) + 1 := by rw [HN8.out]; exact IntWalk.i64_in _ (by omega)
  have hlw' : wrap64 ((s.size : Int) + 1) = (n8 : Int) + 1 := by rw [HN8.out]; exact IntWalk.wrap64_in _ (by omega)
  have hjs : j ≤ s.size := by rw [HN8.out]; exact hj
  have hc1 := fun V => cut_to j hjs V
  have hc2 := fun V => cut_from j hjs V
  obtain ⟨s1, hs1, hb1⟩ : ∃ s1 : ByteArray, s1 = s.extract 0 j ∧ bl s1 = (bl s).take j := ⟨_, rfl, bl_take s j⟩
  obtain ⟨s2, hs2, hb2⟩ : ∃ s2 : ByteArray, s2 = s.extract j s.size ∧ bl s2 = (bl s).drop j := ⟨_, rfl, bl_drop2 s j⟩
  rw [← hs1] at hc1
  rw [← hs2] at hc2
  clear hs1 hs2 hkc hkr
  go_wp2_with fail
  rw [hlw']
  refine (HPL.out _).mono ?_; rintro e w' ⟨rfl, rfl⟩
  have hlen : (bl s).length = n8 := by rw [bl_len, HN8.out]
  obtain ⟨⟨l1, p1⟩, hO1⟩ : ∃ r, outW F k 1 0 0 1 0 0 0 ((bl s).take j) p0 [] = r := ⟨_, rfl⟩
  obtain ⟨K, hK⟩ : ∃ K, kernJ F ((bl s).take j) ((bl s).drop j) = K := ⟨_, rfl⟩
  obtain ⟨P, hP⟩ : ∃ P, p1 + k * K = P := ⟨_, rfl⟩
  obtain ⟨⟨l2, p2⟩, hO2⟩ : ∃ r, outW F k 1 0 0 1 0 0 0 ((bl s).drop j) P [] = r := ⟨_, rfl⟩
  have hO3 : outW F k 1 0 0 1 0 0 0 (bl s) p0 [] = (jn l1 l2, p2) := by
    conv => lhs; rw [← List.take_append_drop j (bl s)]
    rw [outW_app, hO1, hK, hP, outW_from, hO2]
  have hlt1 : ∀ b ∈ (bl s).take j, b < 3 := fun b hb => HLT.out b (List.mem_of_mem_take hb)
  have hlt2 : ∀ b ∈ (bl s).drop j, b < 3 := fun b hb => HLT.out b (List.mem_of_mem_drop hb)
  have hln1 : ((bl s).take j).length = j := by rw [List.length_take]; omega
  have hln2 : ((bl s).drop j).length = n8 - j := by rw [List.length_drop, hlen]
  have hKb : Bd 4 K := by
    rw [← hK]
    by_cases hc : 0 < j ∧ j < (bl s).length
    · rw [kernJ_eq F (bl s) j hc.1 hc.2]; exact HMF.out.kernB _ _
    · rw [kernJ_nil F (bl s) j hc]; unfold Bd; omega
  obtain ⟨o1, o2, o3⟩ := outW_ok HOW.out ((bl s).take j) p0 [] 39 hlt1 HP.out (by rw [hln1]; omega) rfl (by rw [hln1]; simp; omega)
  rw [hO1] at o1 o2 o3
  simp only [hln1, List.length_nil] at o1 o2 o3
  have hPb : Bd (39 + 84 * j + 12) P := by
    have := mul_bdF (n := 3) (m := 4) (x := k) (y := K) (by have := HOW.out.hk; unfold Bd; omega) hKb (by omega) (by omega)
    rw [← hP]; unfold Bd at *; omega
  obtain ⟨u1, u2, u3⟩ := outW_ok HOW.out ((bl s).drop j) P [] (39 + 84 * j + 12) hlt2 hPb (by rw [hln2]; omega) rfl (by rw [hln2]; simp; omega)
  rw [hO2] at u1 u2 u3
  simp only [hln2, List.length_nil] at u1 u2 u3
  obtain ⟨jj, jm, jl⟩ := jn_ok o1 u1 (by omega)
  have fx : fixB (p0 * 65536) = true := fix_p (by have := HP.out; unfold Bd at *; omega)
  have fP : fixB (P * 65536) = true := fix_p (by unfold Bd at *; omega)
  have f0 : fixB 0 = true := by decide
  have E1 : outF F oneM (p0 * 65536) 0 (bl s1) = ((l1, p1 * 65536, 0), 0) := by
    rw [hb1, outF_made HMF.out (m := oneM) (by decide) fx f0]
    have h2 := outS_whole HOW.out ((bl s).take j) p0 [] hlt1 (by rw [hln1]; omega) (by rw [hln1]; have := HP.out; unfold Bd at *; omega) rfl (by rw [hln1]; simp; omega)
    rw [hO1, Int.zero_mul] at h2; exact h2
  have E2 : outF F oneM (P * 65536) 0 (bl s2) = ((l2, p2 * 65536, 0), 0) := by
    rw [hb2, outF_made HMF.out (m := oneM) (by decide) fP f0]
    have h2 := outS_whole HOW.out ((bl s).drop j) P [] hlt2 (by rw [hln2]; omega) (by rw [hln2]; unfold Bd at *; omega) rfl (by rw [hln2]; simp; omega)
    rw [hO2, Int.zero_mul] at h2; exact h2
  have E3 : outF F oneM (p0 * 65536) 0 (bl s) = ((jn l1 l2, p2 * 65536, 0), 0) := by
    rw [outF_made HMF.out (m := oneM) (by decide) fx f0]
    have h2 := outS_whole HOW.out (bl s) p0 [] HLT.out (by rw [hlen]; omega) (by rw [hlen]; have := HP.out; unfold Bd at *; omega) rfl (by rw [hlen]; simp; omega)
    rw [hO3, Int.zero_mul] at h2; exact h2
  have hz1 : s1.size ≤ 1000000 := by rw [← bl_len, hb1, hln1]; omega
  have hz2 : s2.size ≤ 1000000 := by rw [← bl_len, hb2, hln2]; omega
  have hz3 : s.size ≤ 1000000 := by rw [HN8.out]; omega
  obtain ⟨J, hJ⟩ : ∃ J, jn l1 l2 = J := ⟨_, rfl⟩
  rw [hJ] at E3 jj jm jl
  have HO1 := Lib.hid fun V (hV : Below w6.heap.size w6 V) => outline_cap F C oneM (p0 * 65536) 0 s1 ((l1, p1 * 65536, 0), 0) V hz1 (HFo.out V hV) E1
  have HO2 := Lib.hid fun V (hV : Below w6.heap.size w6 V) => outline_any F C oneM (P * 65536) 0 s2 ((l2, p2 * 65536, 0), 0) V hz2 (HFo.out V hV) E2
  have HO3 := Lib.hid fun V (hV : Below w6.heap.size w6 V) => outline_any F C oneM (p0 * 65536) 0 s ((J, p2 * 65536, 0), 0) V hz3 (HFo.out V hV) E3
  obtain ⟨n1, hn1⟩ : ∃ n, n = l1.length := ⟨_, rfl⟩
  obtain ⟨n2, hn2⟩ : ∃ n, n = l2.length := ⟨_, rfl⟩
  obtain ⟨nj, hnj⟩ : ∃ n, n = J.length := ⟨_, rfl⟩
  have HJC := Lib.hid fun A3 c3 A4 c4 V (hc : n1 ≤ c3) (h3 : Sl V 5 A3 n1 (sgs l1)) (h4 : Sl V 5 A4 n2 (sgs l2)) => Join_any A3 A4 n1 c3 n2 c4 l1 l2 (J, 0) V (by rw [hn1]; omega) (by rw [hn2]; omega) hc h3 h4 jj
  simp only [vm] at HO1 HO2 HO3 HJC
  rw [← hn1] at HO1
  rw [← hn2] at HO2
  rw [← hnj] at HO3 HJC jl
  have hnj3 : nj ≤ 1000000 := by omega
  have HKK := Lib.hid hK
  have HPP := Lib.hid hP
  have HKb := Lib.hid hKb
  have Ho3 := Lib.hid o3
  have HPb := Lib.hid hPb
  have HLN := Lib.hid hlen
  have GR := Below.refl w6.heap.size w6
  clear hO1 hK hP hO2 hO3 hlt1 hlt2 hln1 hln2 hKb o1 o2 o3 u1 u2 u3 hPb jj jm jl fx fP f0 E1 E2 E3 hz1 hz2 hz3 hJ hn1 hn2 hnj hb1 hb2 hlen hlw hlw'
  go_upto_region 5 with (fail)
  refine wp_region_ord (fun W => ∃ y : Grown w6, W = y.world) [] 17 (by kernel_rfl) (by kernel_rfl) ⟨⟨_, bdrew (Below.refl _ _)⟩, rfl⟩ ?_
  intro hS
  have HAo := Lib.hid fun (V : World) (hV : ∃ y : Grown w6, V = y.world) => (show BC V gF C by obtain ⟨y, rfl⟩ := hV; exact HFB.out _ (btr GR y.below))
  have HMo := Lib.hid fun (V : World) (hV : ∃ y : Grown w6, V = y.world) => (show BC V gM (mtC oneM) by obtain ⟨y, rfl⟩ := hV; exact HMB.out _ (btr GR y.below))
  have HG := Lib.hid (fun (V : World) (hV : Below w6.heap.size w6 V) => (⟨⟨V, hV⟩, rfl⟩ : ∃ y : Grown w6, V = y.world))
  have HB := bdrew (Below.refl w6.heap.size w6)
  refine ord_take 0 rfl rfl (by kernel_rfl) (by kernel_rfl) (fun _ _ _ h => h) (yieldsIf_rec (by rfl) _ _ rfl _ rfl _ 9 foT HAo.out h9) hS ?_
  simp only [Act.put, List.setIfInBounds_toArray, List.set_cons_zero, List.set_cons_succ]
  refine ord_take 1 rfl rfl (by kernel_rfl) (by kernel_rfl) (fun _ _ _ h => h) (yieldsIf_rec (by rfl) _ _ rfl _ rfl _ 6 matT2 HMo.out rfl) hS ?_
  simp only [Act.put, List.setIfInBounds_toArray, List.set_cons_zero, List.set_cons_succ]
  refine ord_take (v := ?_) 2 rfl rfl (by kernel_rfl) (by kernel_rfl) (fun _ _ _ h => h) (Or.inl ⟨by rfl, ?_⟩) hS ?_
  rotate_left
  · rintro W ⟨y, rfl⟩
    go_simp
    (try with_reducible rfl)
  simp only [Act.put, List.setIfInBounds_toArray, List.set_cons_zero, List.set_cons_succ]
  refine ord_take (v := ?_) 4 rfl rfl (by kernel_rfl) (by kernel_rfl) (fun _ _ _ h => h) (Or.inl ⟨by rfl, ?_⟩) hS ?_
  rotate_left
  · rintro W ⟨y, rfl⟩
    go_simp
    (try with_reducible rfl)
  simp only [Act.put, List.setIfInBounds_toArray, List.set_cons_zero, List.set_cons_succ]
  refine ord_take (v := ?_) 5 rfl rfl (by kernel_rfl) (by kernel_rfl) (fun _ _ _ h => h) (Or.inl ⟨by rfl, ?_⟩) hS ?_
  rotate_left
  · rintro W ⟨y, rfl⟩
    go_simp
    (try with_reducible rfl)
  simp only [Act.put, List.setIfInBounds_toArray, List.set_cons_zero, List.set_cons_succ]
  refine ord_take (v := ?_) 6 rfl rfl (by kernel_rfl) (by kernel_rfl) (fun _ _ _ h => h) (Or.inl ⟨by rfl, ?_⟩) hS ?_
  rotate_left
  · rintro W ⟨y, rfl⟩
    go_simp
    (try with_reducible rfl)
  simp only [Act.put, List.setIfInBounds_toArray, List.set_cons_zero, List.set_cons_succ]
  clear hS
  refine ord_one 3 rfl (by kernel_rfl) rfl ?_
  intro K hK
  go_simp
  refine (HSX.out _).mono ?_; rintro e w' ⟨rfl, rfl⟩
  refine hK.out _ _ (HG.out _ HB) ?_
  clear hK K
  try simp only
  have hS := HG.out _ HB
  clear hS
  refine ord_one 7 rfl (by kernel_rfl) rfl ?_
  intro K hK
  go_simp
  refine (HO1.out _ (btr GR HB)).mono ?_; rintro e wn ⟨b8, A3, c3, rfl, hsa, hca⟩
  have Hn := btr HB b8
  refine hK.out _ _ (HG.out _ Hn) ?_
  clear hK K HB b8
  have HB := Hn
  clear Hn
  try simp only
  have hS := HG.out _ HB
  refine ord_take (v := ?_) 8 rfl rfl (by kernel_rfl) (by kernel_rfl) (fun _ _ _ h => h) (Or.inl ⟨by rfl, ?_⟩) hS ?_
  rotate_left
  · rintro W ⟨y, rfl⟩
    go_simp
    (try with_reducible rfl)
  simp only [Act.put, List.setIfInBounds_toArray, List.set_cons_zero, List.set_cons_succ]
  refine ord_take (v := ?_) 9 rfl rfl (by kernel_rfl) (by kernel_rfl) (fun _ _ _ h => h) (Or.inl ⟨by rfl, ?_⟩) hS ?_
  rotate_left
  · rintro W ⟨y, rfl⟩
    go_simp
    (try with_reducible rfl)
  simp only [Act.put, List.setIfInBounds_toArray, List.set_cons_zero, List.set_cons_succ]
  refine ord_take (v := ?_) 10 rfl rfl (by kernel_rfl) (by kernel_rfl) (fun _ _ _ h => h) (Or.inl ⟨by rfl, ?_⟩) hS ?_
  rotate_left
  · rintro W ⟨y, rfl⟩
    go_simp
    (try with_reducible rfl)
  simp only [Act.put, List.setIfInBounds_toArray, List.set_cons_zero, List.set_cons_succ]
  refine ord_take (v := ?_) 11 rfl rfl (by kernel_rfl) (by kernel_rfl) (fun _ _ _ h => h) (Or.inl ⟨by rfl, ?_⟩) hS ?_
  rotate_left
  · rintro W ⟨y, rfl⟩
    go_simp
    (try with_reducible rfl)
  simp only [Act.put, List.setIfInBounds_toArray, List.set_cons_zero, List.set_cons_succ]
  refine ord_take (v := ?_) 12 rfl rfl (by kernel_rfl) (by kernel_rfl) (fun _ _ _ h => h) (Or.inl ⟨by rfl, ?_⟩) hS ?_
  rotate_left
  · rintro W ⟨y, rfl⟩
    go_simp
    (try with_reducible rfl)
  simp only [Act.put, List.setIfInBounds_toArray, List.set_cons_zero, List.set_cons_succ]
  refine ord_take (v := ?_) 13 rfl rfl (by kernel_rfl) (by kernel_rfl) (fun _ _ _ h => h) (Or.inl ⟨by rfl, ?_⟩) hS ?_
  rotate_left
  · rintro W ⟨y, rfl⟩
    go_simp
    (try with_reducible rfl)
  simp only [Act.put, List.setIfInBounds_toArray, List.set_cons_zero, List.set_cons_succ]
  refine ord_take (v := ?_) 14 rfl rfl (by kernel_rfl) (by kernel_rfl) (fun _ _ _ h => h) (Or.inl ⟨by rfl, ?_⟩) hS ?_
  rotate_left
  · rintro W ⟨y, rfl⟩
    go_simp
    (try with_reducible rfl)
  simp only [Act.put, List.setIfInBounds_toArray, List.set_cons_zero, List.set_cons_succ]
  refine ord_take (v := ?_) 15 rfl rfl (by kernel_rfl) (by kernel_rfl) (fun _ _ _ h => h) (Or.inl ⟨by rfl, ?_⟩) hS ?_
  rotate_left
  · rintro W ⟨y, rfl⟩
    go_simp
    (try with_reducible rfl)
  simp only [Act.put, List.setIfInBounds_toArray, List.set_cons_zero, List.set_cons_succ]
  refine ord_take (v := ?_) 16 rfl rfl (by kernel_rfl) (by kernel_rfl) (fun _ _ _ h => h) (Or.inl ⟨by rfl, ?_⟩) hS ?_
  rotate_left
  · rintro W ⟨y, rfl⟩
    go_simp
    (try with_reducible rfl)
  simp only [Act.put, List.setIfInBounds_toArray, List.set_cons_zero, List.set_cons_succ]
  clear hS HG HAo HMo
  refine ⟨by kernel_rfl, ?_⟩
  refine NoPanic.normal ?_
  obtain ⟨wa, hwa⟩ : ∃ W, W = wn := ⟨_, rfl⟩
  rw [← hwa] at HB hsa ⊢
  have Qa := HB
  clear hwa HB GR HO1 hc1
  by_cases hjj : 0 < j ∧ j < n8
  · have g1 : decide (0 < j) = true := decide_eq_true hjj.1
    have g2 : decide (j < s.size) = true := decide_eq_true (by rw [HN8.out]; omega)
    have hjs1 : j - 1 < s.size := by rw [HN8.out]; omega
    have hjs2 : j < s.size := by rw [HN8.out]; omega
    have hjw : IntKind.i64.wrap ((j : Int) - 1) = ((j - 1 : Nat) : Int) := by rw [IntWalk.i64_in _ (by omega)]; omega
    have hi1 := fun V => run_byt (t := 9) (i := ((j - 1 : Nat) : Int)) rfl Try.underlying9 hjs1 V
    have hi2 := fun V => run_byt (t := 9) (i := (j : Int)) rfl Try.underlying9 hjs2 V
    have hka := byt_lt s (j - 1)
    have hkb := byt_lt s j
    have hke : kernF F (byt s (j - 1)) (byt s j) = K := by rw [← HKK.out, kernJ_eq F (bl s) j hjj.1 (by rw [HLN.out]; exact hjj.2)]; rfl
    have HKC := Lib.hid fun V (hV : Below w6.heap.size w6 V) => Kern_any F C (byt s (j - 1)) (byt s j) V hka hkb (HFo.out V hV)
    rw [HMF.out.open, hke] at HKC
    simp only [if_true] at HKC
    obtain ⟨ba, hba⟩ : ∃ b, byt s (j - 1) = b := ⟨_, rfl⟩
    obtain ⟨bb, hbb⟩ : ∃ b, byt s j = b := ⟨_, rfl⟩
    rw [hba] at hi1 HKC
    rw [hbb] at hi2 HKC
    have hkk := HOW.out.hk
    have hKb := HKb.out
    have hP := HPP.out
    have ho3 := Ho3.out
    have hkm := mul_bdF (n := 3) (m := 4) (x := k) (y := K) (by unfold Bd; omega) hKb (by omega) (by omega)
    have hm0 : k * 65536 * K = k * K * 65536 := by grind
    have hw1 : IntKind.i64.wrap (k * 65536 * K) = k * K * 65536 := by rw [hm0]; exact IntWalk.i64_in _ (by unfold Bd at *; omega)
    have hw2 : IntKind.i64.wrap (p1 * 65536 + k * K * 65536) = P * 65536 := by
      have : p1 * 65536 + k * K * 65536 = P * 65536 := by rw [← hP]; grind
      rw [this]; exact IntWalk.i64_in _ (by unfold Bd at *; omega)
    have q0 : ∀ y : Grown wa, y.world.cell? ⟨gF, 0, none⟩ = some (.int .i64 (k * 65536)) := fun y => by
      have hV := btr Qa y.below
      have := (HFB.out _ hV).c 0 _ (fo_c0 (HFo.out _ hV))
      rw [HMA.out] at this; exact this
    clear hka hkb hke hba hbb hKb hP ho3 hkm hm0 hkk hjs1 hjs2
    go_upto_region 7 with (fail)
    refine wp_region_ord (fun W => ∃ y : Grown wa, W = y.world) [] 16 (by kernel_rfl) (by kernel_rfl) ⟨⟨_, bdrew (Below.refl _ _)⟩, rfl⟩ ?_
    intro hS
    have HAo := Lib.hid fun (V : World) (hV : ∃ y : Grown wa, V = y.world) => (show BC V gF C by obtain ⟨y, rfl⟩ := hV; exact HFB.out _ (btr Qa y.below))
    have HMo := Lib.hid fun (V : World) (hV : ∃ y : Grown wa, V = y.world) => (show BC V gM (mtC oneM) by obtain ⟨y, rfl⟩ := hV; exact HMB.out _ (btr Qa y.below))
    have HG := Lib.hid (fun (V : World) (hV : Below wa.heap.size wa V) => (⟨⟨V, hV⟩, rfl⟩ : ∃ y : Grown wa, V = y.world))
    have HB := bdrew (Below.refl wa.heap.size wa)
    refine ord_take (v := ?_) 0 rfl rfl (by kernel_rfl) (by kernel_rfl) (fun _ _ _ h => h) (Or.inl ⟨by rfl, ?_⟩) hS ?_
    rotate_left
    · rintro W ⟨y, rfl⟩
      go_simp
      (try with_reducible rfl)
    simp only [Act.put, List.setIfInBounds_toArray, List.set_cons_zero, List.set_cons_succ]
    refine ord_take (v := ?_) 1 rfl rfl (by kernel_rfl) (by kernel_rfl) (fun _ _ _ h => h) (Or.inl ⟨by rfl, ?_⟩) hS ?_
    rotate_left
    · rintro W ⟨y, rfl⟩
      go_simp
      (try with_reducible rfl)
    simp only [Act.put, List.setIfInBounds_toArray, List.set_cons_zero, List.set_cons_succ]
    refine ord_take (v := ?_) 2 rfl rfl (by kernel_rfl) (by kernel_rfl) (fun _ _ _ h => h) (Or.inl ⟨by rfl, ?_⟩) hS ?_
    rotate_left
    · rintro W ⟨y, rfl⟩
      go_simp
      (try with_reducible rfl)
    simp only [Act.put, List.setIfInBounds_toArray, List.set_cons_zero, List.set_cons_succ]
    refine ord_take (v := ?_) 3 rfl rfl (by kernel_rfl) (by kernel_rfl) (fun _ _ _ h => h) (Or.inl ⟨by rfl, ?_⟩) hS ?_
    rotate_left
    · rintro W ⟨y, rfl⟩
      go_simp
      (try with_reducible rfl)
    simp only [Act.put, List.setIfInBounds_toArray, List.set_cons_zero, List.set_cons_succ]
    refine ord_take 4 rfl rfl (by kernel_rfl) (by kernel_rfl) (fun _ _ _ h => h) (yieldsIf_rec (by rfl) _ _ rfl _ rfl _ 9 foT HAo.out h9) hS ?_
    simp only [Act.put, List.setIfInBounds_toArray, List.set_cons_zero, List.set_cons_succ]
    refine ord_take (v := ?_) 5 rfl rfl (by kernel_rfl) (by kernel_rfl) (fun _ _ _ h => h) (Or.inl ⟨by rfl, ?_⟩) hS ?_
    rotate_left
    · rintro W ⟨y, rfl⟩
      go_simp
      (try with_reducible rfl)
    simp only [Act.put, List.setIfInBounds_toArray, List.set_cons_zero, List.set_cons_succ]
    refine ord_take (v := ?_) 6 rfl rfl (by kernel_rfl) (by kernel_rfl) (fun _ _ _ h => h) (Or.inl ⟨by rfl, ?_⟩) hS ?_
    rotate_left
    · rintro W ⟨y, rfl⟩
      go_simp
      (try with_reducible rfl)
    simp only [Act.put, List.setIfInBounds_toArray, List.set_cons_zero, List.set_cons_succ]
    refine ord_take (v := ?_) 7 rfl rfl (by kernel_rfl) (by kernel_rfl) (fun _ _ _ h => h) (Or.inl ⟨by rfl, ?_⟩) hS ?_
    rotate_left
    · rintro W ⟨y, rfl⟩
      go_simp
      (try with_reducible rfl)
    simp only [Act.put, List.setIfInBounds_toArray, List.set_cons_zero, List.set_cons_succ]
    refine ord_take (v := ?_) 8 rfl rfl (by kernel_rfl) (by kernel_rfl) (fun _ _ _ h => h) (Or.inl ⟨by rfl, ?_⟩) hS ?_
    rotate_left
    · rintro W ⟨y, rfl⟩
      go_simp
      (try with_reducible rfl)
    simp only [Act.put, List.setIfInBounds_toArray, List.set_cons_zero, List.set_cons_succ]
    refine ord_take (v := ?_) 9 rfl rfl (by kernel_rfl) (by kernel_rfl) (fun _ _ _ h => h) (Or.inl ⟨by rfl, ?_⟩) hS ?_
    rotate_left
    · rintro W ⟨y, rfl⟩
      go_simp
      (try with_reducible rfl)
    simp only [Act.put, List.setIfInBounds_toArray, List.set_cons_zero, List.set_cons_succ]
    refine ord_take (v := ?_) 10 rfl rfl (by kernel_rfl) (by kernel_rfl) (fun _ _ _ h => h) (Or.inl ⟨by rfl, ?_⟩) hS ?_
    rotate_left
    · rintro W ⟨y, rfl⟩
      go_simp
      (try with_reducible rfl)
    simp only [Act.put, List.setIfInBounds_toArray, List.set_cons_zero, List.set_cons_succ]
    refine ord_take (v := ?_) 11 rfl rfl (by kernel_rfl) (by kernel_rfl) (fun _ _ _ h => h) (Or.inl ⟨by rfl, ?_⟩) hS ?_
    rotate_left
    · rintro W ⟨y, rfl⟩
      go_simp
      (try with_reducible rfl)
    simp only [Act.put, List.setIfInBounds_toArray, List.set_cons_zero, List.set_cons_succ]
    clear hS
    refine ord_one 12 rfl (by kernel_rfl) rfl ?_
    intro K hK
    go_simp
    refine (HKC.out _ (btr Qa HB)).mono ?_; rintro e wn ⟨rfl, b8⟩
    have Hn := btr HB b8
    refine hK.out _ _ (HG.out _ Hn) ?_
    clear hK K HB b8
    have HB := Hn
    clear Hn
    try simp only
    have hS := HG.out _ HB
    refine ord_take (v := ?_) 13 rfl rfl (by kernel_rfl) (by kernel_rfl) (fun _ _ _ h => h) (Or.inl ⟨by rfl, ?_⟩) hS ?_
    rotate_left
    · rintro W ⟨y, rfl⟩
      go_simp
      (try with_reducible rfl)
    simp only [Act.put, List.setIfInBounds_toArray, List.set_cons_zero, List.set_cons_succ]
    refine ord_take (v := ?_) 14 rfl rfl (by kernel_rfl) (by kernel_rfl) (fun _ _ _ h => h) (Or.inl ⟨by rfl, ?_⟩) hS ?_
    rotate_left
    · rintro W ⟨y, rfl⟩
      go_simp
      (try with_reducible rfl)
    simp only [Act.put, List.setIfInBounds_toArray, List.set_cons_zero, List.set_cons_succ]
    refine ord_take (v := ?_) 15 rfl rfl (by kernel_rfl) (by kernel_rfl) (fun _ _ _ h => h) (Or.inl ⟨by rfl, ?_⟩) hS ?_
    rotate_left
    · rintro W ⟨y, rfl⟩
      go_simp
      (try with_reducible rfl)
    simp only [Act.put, List.setIfInBounds_toArray, List.set_cons_zero, List.set_cons_succ]
    clear hS HG HAo HMo
    refine ⟨by kernel_rfl, ?_⟩
    refine NoPanic.normal ?_
    obtain ⟨wb, hwb⟩ : ∃ W, W = wn := ⟨_, rfl⟩
    rw [← hwb] at HB ⊢
    have Qb := btr Qa HB
    have hsb := hsa.below HB
    clear hwb HB hsa Qa q0 hi1 hi2 HKC
    go_upto_region 8 with (fail)
    refine wp_region_ord (fun W => ∃ y : Grown wb, W = y.world) [] 17 (by kernel_rfl) (by kernel_rfl) ⟨⟨_, bdrew (Below.refl _ _)⟩, rfl⟩ ?_
    intro hS
    have HAo := Lib.hid fun (V : World) (hV : ∃ y : Grown wb, V = y.world) => (show BC V gF C by obtain ⟨y, rfl⟩ := hV; exact HFB.out _ (btr Qb y.below))
    have HMo := Lib.hid fun (V : World) (hV : ∃ y : Grown wb, V = y.world) => (show BC V gM (mtC oneM) by obtain ⟨y, rfl⟩ := hV; exact HMB.out _ (btr Qb y.below))
    have HG := Lib.hid (fun (V : World) (hV : Below wb.heap.size wb V) => (⟨⟨V, hV⟩, rfl⟩ : ∃ y : Grown wb, V = y.world))
    have HB := bdrew (Below.refl wb.heap.size wb)
    refine ord_take 0 rfl rfl (by kernel_rfl) (by kernel_rfl) (fun _ _ _ h => h) (yieldsIf_rec (by rfl) _ _ rfl _ rfl _ 9 foT HAo.out h9) hS ?_
    simp only [Act.put, List.setIfInBounds_toArray, List.set_cons_zero, List.set_cons_succ]
    refine ord_take 1 rfl rfl (by kernel_rfl) (by kernel_rfl) (fun _ _ _ h => h) (yieldsIf_rec (by rfl) _ _ rfl _ rfl _ 6 matT2 HMo.out rfl) hS ?_
    simp only [Act.put, List.setIfInBounds_toArray, List.set_cons_zero, List.set_cons_succ]
    refine ord_take (v := ?_) 2 rfl rfl (by kernel_rfl) (by kernel_rfl) (fun _ _ _ h => h) (Or.inl ⟨by rfl, ?_⟩) hS ?_
    rotate_left
    · rintro W ⟨y, rfl⟩
      go_simp
      (try with_reducible rfl)
    simp only [Act.put, List.setIfInBounds_toArray, List.set_cons_zero, List.set_cons_succ]
    refine ord_take (v := ?_) 3 rfl rfl (by kernel_rfl) (by kernel_rfl) (fun _ _ _ h => h) (Or.inl ⟨by rfl, ?_⟩) hS ?_
    rotate_left
    · rintro W ⟨y, rfl⟩
      go_simp
      (try with_reducible rfl)
    simp only [Act.put, List.setIfInBounds_toArray, List.set_cons_zero, List.set_cons_succ]
    refine ord_take (v := ?_) 4 rfl rfl (by kernel_rfl) (by kernel_rfl) (fun _ _ _ h => h) (Or.inl ⟨by rfl, ?_⟩) hS ?_
    rotate_left
    · rintro W ⟨y, rfl⟩
      go_simp
      (try with_reducible rfl)
    simp only [Act.put, List.setIfInBounds_toArray, List.set_cons_zero, List.set_cons_succ]
    refine ord_take (v := ?_) 5 rfl rfl (by kernel_rfl) (by kernel_rfl) (fun _ _ _ h => h) (Or.inl ⟨by rfl, ?_⟩) hS ?_
    rotate_left
    · rintro W ⟨y, rfl⟩
      go_simp
      (try with_reducible rfl)
    simp only [Act.put, List.setIfInBounds_toArray, List.set_cons_zero, List.set_cons_succ]
    refine ord_take (v := ?_) 6 rfl rfl (by kernel_rfl) (by kernel_rfl) (fun _ _ _ h => h) (Or.inl ⟨by rfl, ?_⟩) hS ?_
    rotate_left
    · rintro W ⟨y, rfl⟩
      go_simp
      (try with_reducible rfl)
    simp only [Act.put, List.setIfInBounds_toArray, List.set_cons_zero, List.set_cons_succ]
    clear hS
    refine ord_one 7 rfl (by kernel_rfl) rfl ?_
    intro K hK
    go_simp
    refine (HO2.out _ (btr Qb HB)).mono ?_; rintro e wn ⟨b8, A4, c4, rfl, hsc⟩
    have Hn := btr HB b8
    refine hK.out _ _ (HG.out _ Hn) ?_
    clear hK K HB b8
    have HB := Hn
    clear Hn
    try simp only
    have hS := HG.out _ HB
    refine ord_take (v := ?_) 8 rfl rfl (by kernel_rfl) (by kernel_rfl) (fun _ _ _ h => h) (Or.inl ⟨by rfl, ?_⟩) hS ?_
    rotate_left
    · rintro W ⟨y, rfl⟩
      go_simp
      (try with_reducible rfl)
    simp only [Act.put, List.setIfInBounds_toArray, List.set_cons_zero, List.set_cons_succ]
    refine ord_take (v := ?_) 9 rfl rfl (by kernel_rfl) (by kernel_rfl) (fun _ _ _ h => h) (Or.inl ⟨by rfl, ?_⟩) hS ?_
    rotate_left
    · rintro W ⟨y, rfl⟩
      go_simp
      (try with_reducible rfl)
    simp only [Act.put, List.setIfInBounds_toArray, List.set_cons_zero, List.set_cons_succ]
    refine ord_take (v := ?_) 10 rfl rfl (by kernel_rfl) (by kernel_rfl) (fun _ _ _ h => h) (Or.inl ⟨by rfl, ?_⟩) hS ?_
    rotate_left
    · rintro W ⟨y, rfl⟩
      go_simp
      (try with_reducible rfl)
    simp only [Act.put, List.setIfInBounds_toArray, List.set_cons_zero, List.set_cons_succ]
    refine ord_take (v := ?_) 11 rfl rfl (by kernel_rfl) (by kernel_rfl) (fun _ _ _ h => h) (Or.inl ⟨by rfl, ?_⟩) hS ?_
    rotate_left
    · rintro W ⟨y, rfl⟩
      go_simp
      (try with_reducible rfl)
    simp only [Act.put, List.setIfInBounds_toArray, List.set_cons_zero, List.set_cons_succ]
    refine ord_take (v := ?_) 12 rfl rfl (by kernel_rfl) (by kernel_rfl) (fun _ _ _ h => h) (Or.inl ⟨by rfl, ?_⟩) hS ?_
    rotate_left
    · rintro W ⟨y, rfl⟩
      go_simp
      (try with_reducible rfl)
    simp only [Act.put, List.setIfInBounds_toArray, List.set_cons_zero, List.set_cons_succ]
    refine ord_take (v := ?_) 13 rfl rfl (by kernel_rfl) (by kernel_rfl) (fun _ _ _ h => h) (Or.inl ⟨by rfl, ?_⟩) hS ?_
    rotate_left
    · rintro W ⟨y, rfl⟩
      go_simp
      (try with_reducible rfl)
    simp only [Act.put, List.setIfInBounds_toArray, List.set_cons_zero, List.set_cons_succ]
    refine ord_take (v := ?_) 14 rfl rfl (by kernel_rfl) (by kernel_rfl) (fun _ _ _ h => h) (Or.inl ⟨by rfl, ?_⟩) hS ?_
    rotate_left
    · rintro W ⟨y, rfl⟩
      go_simp
      (try with_reducible rfl)
    simp only [Act.put, List.setIfInBounds_toArray, List.set_cons_zero, List.set_cons_succ]
    refine ord_take (v := ?_) 15 rfl rfl (by kernel_rfl) (by kernel_rfl) (fun _ _ _ h => h) (Or.inl ⟨by rfl, ?_⟩) hS ?_
    rotate_left
    · rintro W ⟨y, rfl⟩
      go_simp
      (try with_reducible rfl)
    simp only [Act.put, List.setIfInBounds_toArray, List.set_cons_zero, List.set_cons_succ]
    refine ord_take (v := ?_) 16 rfl rfl (by kernel_rfl) (by kernel_rfl) (fun _ _ _ h => h) (Or.inl ⟨by rfl, ?_⟩) hS ?_
    rotate_left
    · rintro W ⟨y, rfl⟩
      go_simp
      (try with_reducible rfl)
    simp only [Act.put, List.setIfInBounds_toArray, List.set_cons_zero, List.set_cons_succ]
    clear hS HG HAo HMo
    refine ⟨by kernel_rfl, ?_⟩
    refine NoPanic.normal ?_
    obtain ⟨wc, hwc⟩ : ∃ W, W = wn := ⟨_, rfl⟩
    rw [← hwc] at HB hsc ⊢
    have Qc := btr Qb HB
    replace hsb := hsb.below HB
    clear hwc HB Qb HO2 hc2
    go_upto_region 9 with (fail)
    refine wp_region_ord (fun W => ∃ y : Grown wc, W = y.world) [] 15 (by kernel_rfl) (by kernel_rfl) ⟨⟨_, bdrew (Below.refl _ _)⟩, rfl⟩ ?_
    intro hS
    have HAo := Lib.hid fun (V : World) (hV : ∃ y : Grown wc, V = y.world) => (show BC V gF C by obtain ⟨y, rfl⟩ := hV; exact HFB.out _ (btr Qc y.below))
    have HMo := Lib.hid fun (V : World) (hV : ∃ y : Grown wc, V = y.world) => (show BC V gM (mtC oneM) by obtain ⟨y, rfl⟩ := hV; exact HMB.out _ (btr Qc y.below))
    have HG := Lib.hid (fun (V : World) (hV : Below wc.heap.size wc V) => (⟨⟨V, hV⟩, rfl⟩ : ∃ y : Grown wc, V = y.world))
    have HB := bdrew (Below.refl wc.heap.size wc)
    refine ord_take 0 rfl rfl (by kernel_rfl) (by kernel_rfl) (fun _ _ _ h => h) (yieldsIf_rec (by rfl) _ _ rfl _ rfl _ 9 foT HAo.out h9) hS ?_
    simp only [Act.put, List.setIfInBounds_toArray, List.set_cons_zero, List.set_cons_succ]
    refine ord_take 1 rfl rfl (by kernel_rfl) (by kernel_rfl) (fun _ _ _ h => h) (yieldsIf_rec (by rfl) _ _ rfl _ rfl _ 6 matT2 HMo.out rfl) hS ?_
    simp only [Act.put, List.setIfInBounds_toArray, List.set_cons_zero, List.set_cons_succ]
    refine ord_take (v := ?_) 2 rfl rfl (by kernel_rfl) (by kernel_rfl) (fun _ _ _ h => h) (Or.inl ⟨by rfl, ?_⟩) hS ?_
    rotate_left
    · rintro W ⟨y, rfl⟩
      go_simp
      (try with_reducible rfl)
    simp only [Act.put, List.setIfInBounds_toArray, List.set_cons_zero, List.set_cons_succ]
    refine ord_take (v := ?_) 4 rfl rfl (by kernel_rfl) (by kernel_rfl) (fun _ _ _ h => h) (Or.inl ⟨by rfl, ?_⟩) hS ?_
    rotate_left
    · rintro W ⟨y, rfl⟩
      go_simp
      (try with_reducible rfl)
    simp only [Act.put, List.setIfInBounds_toArray, List.set_cons_zero, List.set_cons_succ]
    clear hS
    refine ord_one 3 rfl (by kernel_rfl) rfl ?_
    intro K hK
    go_simp
    refine (HSX.out _).mono ?_; rintro e w' ⟨rfl, rfl⟩
    refine hK.out _ _ (HG.out _ HB) ?_
    clear hK K
    try simp only
    have hS := HG.out _ HB
    clear hS
    refine ord_one 5 rfl (by kernel_rfl) rfl ?_
    intro K hK
    go_simp
    refine (HO3.out _ (btr Qc HB)).mono ?_; rintro e wn ⟨b8, A5, c5, rfl, hsd⟩
    have Hn := btr HB b8
    refine hK.out _ _ (HG.out _ Hn) ?_
    clear hK K HB b8
    have HB := Hn
    clear Hn
    try simp only
    have hS := HG.out _ HB
    refine ord_take (v := ?_) 6 rfl rfl (by kernel_rfl) (by kernel_rfl) (fun _ _ _ h => h) (Or.inl ⟨by rfl, ?_⟩) hS ?_
    rotate_left
    · rintro W ⟨y, rfl⟩
      go_simp
      (try with_reducible rfl)
    simp only [Act.put, List.setIfInBounds_toArray, List.set_cons_zero, List.set_cons_succ]
    refine ord_take (v := ?_) 7 rfl rfl (by kernel_rfl) (by kernel_rfl) (fun _ _ _ h => h) (Or.inl ⟨by rfl, ?_⟩) hS ?_
    rotate_left
    · rintro W ⟨y, rfl⟩
      go_simp
      (try with_reducible rfl)
    simp only [Act.put, List.setIfInBounds_toArray, List.set_cons_zero, List.set_cons_succ]
    refine ord_take (v := ?_) 8 rfl rfl (by kernel_rfl) (by kernel_rfl) (fun _ _ _ h => h) (Or.inl ⟨by rfl, ?_⟩) hS ?_
    rotate_left
    · rintro W ⟨y, rfl⟩
      go_simp
      (try with_reducible rfl)
    simp only [Act.put, List.setIfInBounds_toArray, List.set_cons_zero, List.set_cons_succ]
    refine ord_take (v := ?_) 9 rfl rfl (by kernel_rfl) (by kernel_rfl) (fun _ _ _ h => h) (Or.inl ⟨by rfl, ?_⟩) hS ?_
    rotate_left
    · rintro W ⟨y, rfl⟩
      go_simp
      (try with_reducible rfl)
    simp only [Act.put, List.setIfInBounds_toArray, List.set_cons_zero, List.set_cons_succ]
    refine ord_take (v := ?_) 10 rfl rfl (by kernel_rfl) (by kernel_rfl) (fun _ _ _ h => h) (Or.inl ⟨by rfl, ?_⟩) hS ?_
    rotate_left
    · rintro W ⟨y, rfl⟩
      go_simp
      (try with_reducible rfl)
    simp only [Act.put, List.setIfInBounds_toArray, List.set_cons_zero, List.set_cons_succ]
    refine ord_take (v := ?_) 11 rfl rfl (by kernel_rfl) (by kernel_rfl) (fun _ _ _ h => h) (Or.inl ⟨by rfl, ?_⟩) hS ?_
    rotate_left
    · rintro W ⟨y, rfl⟩
      go_simp
      (try with_reducible rfl)
    simp only [Act.put, List.setIfInBounds_toArray, List.set_cons_zero, List.set_cons_succ]
    refine ord_take (v := ?_) 12 rfl rfl (by kernel_rfl) (by kernel_rfl) (fun _ _ _ h => h) (Or.inl ⟨by rfl, ?_⟩) hS ?_
    rotate_left
    · rintro W ⟨y, rfl⟩
      go_simp
      (try with_reducible rfl)
    simp only [Act.put, List.setIfInBounds_toArray, List.set_cons_zero, List.set_cons_succ]
    refine ord_take (v := ?_) 13 rfl rfl (by kernel_rfl) (by kernel_rfl) (fun _ _ _ h => h) (Or.inl ⟨by rfl, ?_⟩) hS ?_
    rotate_left
    · rintro W ⟨y, rfl⟩
      go_simp
      (try with_reducible rfl)
    simp only [Act.put, List.setIfInBounds_toArray, List.set_cons_zero, List.set_cons_succ]
    refine ord_take (v := ?_) 14 rfl rfl (by kernel_rfl) (by kernel_rfl) (fun _ _ _ h => h) (Or.inl ⟨by rfl, ?_⟩) hS ?_
    rotate_left
    · rintro W ⟨y, rfl⟩
      go_simp
      (try with_reducible rfl)
    simp only [Act.put, List.setIfInBounds_toArray, List.set_cons_zero, List.set_cons_succ]
    clear hS HG HAo HMo
    refine ⟨by kernel_rfl, ?_⟩
    refine NoPanic.normal ?_
    have Qd := btr Qc HB
    have HJ2 := Lib.hid (HJC.out A3 c3 A4 c4 _ hca (hsb.below HB) (hsc.below HB))
    clear HO3 hsb hsc HJC Qc
    go_wp2_with fail
    refine HJ2.out.mono ?_; rintro e we ⟨A6, c6, rfl, ho6, b9⟩
    have hs6 := own_sl ho6
    have hs7 := hsd.below b9
    clear HJ2 hsd ho6
    go_wp2_with fail
    refine (sameSg_any _ _ _ _ _ _ J _ hnj3 hs7 hs6).mono ?_; rintro e w12 ⟨rfl, q7, rfl⟩
    go_wp2_with fail
    go_ret
    exact ⟨rfl, bdrewN (btr B6 (btr Qd b9)) _⟩
  · have hK0 : K = 0 := by rw [← HKK.out]; exact kernJ_nil F (bl s) j (by rw [HLN.out]; exact hjj)
    have hPe : P = p1 := by rw [← HPP.out, hK0]; omega
    subst hPe
    have Qb := Qa
    have hsb := hsa
    obtain ⟨wb, hwb⟩ : ∃ W, W = wa := ⟨_, rfl⟩
    rw [← hwb] at Qb hsb ⊢
    clear hwb Qa hsa
    by_cases hj0 : 0 < j
    · have g1 : decide (0 < j) = true := decide_eq_true hj0
      have g2 : decide (j < s.size) = false := decide_eq_false (by rw [HN8.out]; omega)
      go_upto_region 8 with (fail)
      refine wp_region_ord (fun W => ∃ y : Grown wb, W = y.world) [] 17 (by kernel_rfl) (by kernel_rfl) ⟨⟨_, bdrew (Below.refl _ _)⟩, rfl⟩ ?_
      intro hS
      have HAo := Lib.hid fun (V : World) (hV : ∃ y : Grown wb, V = y.world) => (show BC V gF C by obtain ⟨y, rfl⟩ := hV; exact HFB.out _ (btr Qb y.below))
      have HMo := Lib.hid fun (V : World) (hV : ∃ y : Grown wb, V = y.world) => (show BC V gM (mtC oneM) by obtain ⟨y, rfl⟩ := hV; exact HMB.out _ (btr Qb y.below))
      have HG := Lib.hid (fun (V : World) (hV : Below wb.heap.size wb V) => (⟨⟨V, hV⟩, rfl⟩ : ∃ y : Grown wb, V = y.world))
      have HB := bdrew (Below.refl wb.heap.size wb)
      refine ord_take 0 rfl rfl (by kernel_rfl) (by kernel_rfl) (fun _ _ _ h => h) (yieldsIf_rec (by rfl) _ _ rfl _ rfl _ 9 foT HAo.out h9) hS ?_
      simp only [Act.put, List.setIfInBounds_toArray, List.set_cons_zero, List.set_cons_succ]
      refine ord_take 1 rfl rfl (by kernel_rfl) (by kernel_rfl) (fun _ _ _ h => h) (yieldsIf_rec (by rfl) _ _ rfl _ rfl _ 6 matT2 HMo.out rfl) hS ?_
      simp only [Act.put, List.setIfInBounds_toArray, List.set_cons_zero, List.set_cons_succ]
      refine ord_take (v := ?_) 2 rfl rfl (by kernel_rfl) (by kernel_rfl) (fun _ _ _ h => h) (Or.inl ⟨by rfl, ?_⟩) hS ?_
      rotate_left
      · rintro W ⟨y, rfl⟩
        go_simp
        (try with_reducible rfl)
      simp only [Act.put, List.setIfInBounds_toArray, List.set_cons_zero, List.set_cons_succ]
      refine ord_take (v := ?_) 3 rfl rfl (by kernel_rfl) (by kernel_rfl) (fun _ _ _ h => h) (Or.inl ⟨by rfl, ?_⟩) hS ?_
      rotate_left
      · rintro W ⟨y, rfl⟩
        go_simp
        (try with_reducible rfl)
      simp only [Act.put, List.setIfInBounds_toArray, List.set_cons_zero, List.set_cons_succ]
      refine ord_take (v := ?_) 4 rfl rfl (by kernel_rfl) (by kernel_rfl) (fun _ _ _ h => h) (Or.inl ⟨by rfl, ?_⟩) hS ?_
      rotate_left
      · rintro W ⟨y, rfl⟩
        go_simp
        (try with_reducible rfl)
      simp only [Act.put, List.setIfInBounds_toArray, List.set_cons_zero, List.set_cons_succ]
      refine ord_take (v := ?_) 5 rfl rfl (by kernel_rfl) (by kernel_rfl) (fun _ _ _ h => h) (Or.inl ⟨by rfl, ?_⟩) hS ?_
      rotate_left
      · rintro W ⟨y, rfl⟩
        go_simp
        (try with_reducible rfl)
      simp only [Act.put, List.setIfInBounds_toArray, List.set_cons_zero, List.set_cons_succ]
      refine ord_take (v := ?_) 6 rfl rfl (by kernel_rfl) (by kernel_rfl) (fun _ _ _ h => h) (Or.inl ⟨by rfl, ?_⟩) hS ?_
      rotate_left
      · rintro W ⟨y, rfl⟩
        go_simp
        (try with_reducible rfl)
      simp only [Act.put, List.setIfInBounds_toArray, List.set_cons_zero, List.set_cons_succ]
      clear hS
      refine ord_one 7 rfl (by kernel_rfl) rfl ?_
      intro K hK
      go_simp
      refine (HO2.out _ (btr Qb HB)).mono ?_; rintro e wn ⟨b8, A4, c4, rfl, hsc⟩
      have Hn := btr HB b8
      refine hK.out _ _ (HG.out _ Hn) ?_
      clear hK K HB b8
      have HB := Hn
      clear Hn
      try simp only
      have hS := HG.out _ HB
      refine ord_take (v := ?_) 8 rfl rfl (by kernel_rfl) (by kernel_rfl) (fun _ _ _ h => h) (Or.inl ⟨by rfl, ?_⟩) hS ?_
      rotate_left
      · rintro W ⟨y, rfl⟩
        go_simp
        (try with_reducible rfl)
      simp only [Act.put, List.setIfInBounds_toArray, List.set_cons_zero, List.set_cons_succ]
      refine ord_take (v := ?_) 9 rfl rfl (by kernel_rfl) (by kernel_rfl) (fun _ _ _ h => h) (Or.inl ⟨by rfl, ?_⟩) hS ?_
      rotate_left
      · rintro W ⟨y, rfl⟩
        go_simp
        (try with_reducible rfl)
      simp only [Act.put, List.setIfInBounds_toArray, List.set_cons_zero, List.set_cons_succ]
      refine ord_take (v := ?_) 10 rfl rfl (by kernel_rfl) (by kernel_rfl) (fun _ _ _ h => h) (Or.inl ⟨by rfl, ?_⟩) hS ?_
      rotate_left
      · rintro W ⟨y, rfl⟩
        go_simp
        (try with_reducible rfl)
      simp only [Act.put, List.setIfInBounds_toArray, List.set_cons_zero, List.set_cons_succ]
      refine ord_take (v := ?_) 11 rfl rfl (by kernel_rfl) (by kernel_rfl) (fun _ _ _ h => h) (Or.inl ⟨by rfl, ?_⟩) hS ?_
      rotate_left
      · rintro W ⟨y, rfl⟩
        go_simp
        (try with_reducible rfl)
      simp only [Act.put, List.setIfInBounds_toArray, List.set_cons_zero, List.set_cons_succ]
      refine ord_take (v := ?_) 12 rfl rfl (by kernel_rfl) (by kernel_rfl) (fun _ _ _ h => h) (Or.inl ⟨by rfl, ?_⟩) hS ?_
      rotate_left
      · rintro W ⟨y, rfl⟩
        go_simp
        (try with_reducible rfl)
      simp only [Act.put, List.setIfInBounds_toArray, List.set_cons_zero, List.set_cons_succ]
      refine ord_take (v := ?_) 13 rfl rfl (by kernel_rfl) (by kernel_rfl) (fun _ _ _ h => h) (Or.inl ⟨by rfl, ?_⟩) hS ?_
      rotate_left
      · rintro W ⟨y, rfl⟩
        go_simp
        (try with_reducible rfl)
      simp only [Act.put, List.setIfInBounds_toArray, List.set_cons_zero, List.set_cons_succ]
      refine ord_take (v := ?_) 14 rfl rfl (by kernel_rfl) (by kernel_rfl) (fun _ _ _ h => h) (Or.inl ⟨by rfl, ?_⟩) hS ?_
      rotate_left
      · rintro W ⟨y, rfl⟩
        go_simp
        (try with_reducible rfl)
      simp only [Act.put, List.setIfInBounds_toArray, List.set_cons_zero, List.set_cons_succ]
      refine ord_take (v := ?_) 15 rfl rfl (by kernel_rfl) (by kernel_rfl) (fun _ _ _ h => h) (Or.inl ⟨by rfl, ?_⟩) hS ?_
      rotate_left
      · rintro W ⟨y, rfl⟩
        go_simp
        (try with_reducible rfl)
      simp only [Act.put, List.setIfInBounds_toArray, List.set_cons_zero, List.set_cons_succ]
      refine ord_take (v := ?_) 16 rfl rfl (by kernel_rfl) (by kernel_rfl) (fun _ _ _ h => h) (Or.inl ⟨by rfl, ?_⟩) hS ?_
      rotate_left
      · rintro W ⟨y, rfl⟩
        go_simp
        (try with_reducible rfl)
      simp only [Act.put, List.setIfInBounds_toArray, List.set_cons_zero, List.set_cons_succ]
      clear hS HG HAo HMo
      refine ⟨by kernel_rfl, ?_⟩
      refine NoPanic.normal ?_
      obtain ⟨wc, hwc⟩ : ∃ W, W = wn := ⟨_, rfl⟩
      rw [← hwc] at HB hsc ⊢
      have Qc := btr Qb HB
      replace hsb := hsb.below HB
      clear hwc HB Qb HO2 hc2
      go_upto_region 9 with (fail)
      refine wp_region_ord (fun W => ∃ y : Grown wc, W = y.world) [] 15 (by kernel_rfl) (by kernel_rfl) ⟨⟨_, bdrew (Below.refl _ _)⟩, rfl⟩ ?_
      intro hS
      have HAo := Lib.hid fun (V : World) (hV : ∃ y : Grown wc, V = y.world) => (show BC V gF C by obtain ⟨y, rfl⟩ := hV; exact HFB.out _ (btr Qc y.below))
      have HMo := Lib.hid fun (V : World) (hV : ∃ y : Grown wc, V = y.world) => (show BC V gM (mtC oneM) by obtain ⟨y, rfl⟩ := hV; exact HMB.out _ (btr Qc y.below))
      have HG := Lib.hid (fun (V : World) (hV : Below wc.heap.size wc V) => (⟨⟨V, hV⟩, rfl⟩ : ∃ y : Grown wc, V = y.world))
      have HB := bdrew (Below.refl wc.heap.size wc)
      refine ord_take 0 rfl rfl (by kernel_rfl) (by kernel_rfl) (fun _ _ _ h => h) (yieldsIf_rec (by rfl) _ _ rfl _ rfl _ 9 foT HAo.out h9) hS ?_
      simp only [Act.put, List.setIfInBounds_toArray, List.set_cons_zero, List.set_cons_succ]
      refine ord_take 1 rfl rfl (by kernel_rfl) (by kernel_rfl) (fun _ _ _ h => h) (yieldsIf_rec (by rfl) _ _ rfl _ rfl _ 6 matT2 HMo.out rfl) hS ?_
      simp only [Act.put, List.setIfInBounds_toArray, List.set_cons_zero, List.set_cons_succ]
      refine ord_take (v := ?_) 2 rfl rfl (by kernel_rfl) (by kernel_rfl) (fun _ _ _ h => h) (Or.inl ⟨by rfl, ?_⟩) hS ?_
      rotate_left
      · rintro W ⟨y, rfl⟩
        go_simp
        (try with_reducible rfl)
      simp only [Act.put, List.setIfInBounds_toArray, List.set_cons_zero, List.set_cons_succ]
      refine ord_take (v := ?_) 4 rfl rfl (by kernel_rfl) (by kernel_rfl) (fun _ _ _ h => h) (Or.inl ⟨by rfl, ?_⟩) hS ?_
      rotate_left
      · rintro W ⟨y, rfl⟩
        go_simp
        (try with_reducible rfl)
      simp only [Act.put, List.setIfInBounds_toArray, List.set_cons_zero, List.set_cons_succ]
      clear hS
      refine ord_one 3 rfl (by kernel_rfl) rfl ?_
      intro K hK
      go_simp
      refine (HSX.out _).mono ?_; rintro e w' ⟨rfl, rfl⟩
      refine hK.out _ _ (HG.out _ HB) ?_
      clear hK K
      try simp only
      have hS := HG.out _ HB
      clear hS
      refine ord_one 5 rfl (by kernel_rfl) rfl ?_
      intro K hK
      go_simp
      refine (HO3.out _ (btr Qc HB)).mono ?_; rintro e wn ⟨b8, A5, c5, rfl, hsd⟩
      have Hn := btr HB b8
      refine hK.out _ _ (HG.out _ Hn) ?_
      clear hK K HB b8
      have HB := Hn
      clear Hn
      try simp only
      have hS := HG.out _ HB
      refine ord_take (v := ?_) 6 rfl rfl (by kernel_rfl) (by kernel_rfl) (fun _ _ _ h => h) (Or.inl ⟨by rfl, ?_⟩) hS ?_
      rotate_left
      · rintro W ⟨y, rfl⟩
        go_simp
        (try with_reducible rfl)
      simp only [Act.put, List.setIfInBounds_toArray, List.set_cons_zero, List.set_cons_succ]
      refine ord_take (v := ?_) 7 rfl rfl (by kernel_rfl) (by kernel_rfl) (fun _ _ _ h => h) (Or.inl ⟨by rfl, ?_⟩) hS ?_
      rotate_left
      · rintro W ⟨y, rfl⟩
        go_simp
        (try with_reducible rfl)
      simp only [Act.put, List.setIfInBounds_toArray, List.set_cons_zero, List.set_cons_succ]
      refine ord_take (v := ?_) 8 rfl rfl (by kernel_rfl) (by kernel_rfl) (fun _ _ _ h => h) (Or.inl ⟨by rfl, ?_⟩) hS ?_
      rotate_left
      · rintro W ⟨y, rfl⟩
        go_simp
        (try with_reducible rfl)
      simp only [Act.put, List.setIfInBounds_toArray, List.set_cons_zero, List.set_cons_succ]
      refine ord_take (v := ?_) 9 rfl rfl (by kernel_rfl) (by kernel_rfl) (fun _ _ _ h => h) (Or.inl ⟨by rfl, ?_⟩) hS ?_
      rotate_left
      · rintro W ⟨y, rfl⟩
        go_simp
        (try with_reducible rfl)
      simp only [Act.put, List.setIfInBounds_toArray, List.set_cons_zero, List.set_cons_succ]
      refine ord_take (v := ?_) 10 rfl rfl (by kernel_rfl) (by kernel_rfl) (fun _ _ _ h => h) (Or.inl ⟨by rfl, ?_⟩) hS ?_
      rotate_left
      · rintro W ⟨y, rfl⟩
        go_simp
        (try with_reducible rfl)
      simp only [Act.put, List.setIfInBounds_toArray, List.set_cons_zero, List.set_cons_succ]
      refine ord_take (v := ?_) 11 rfl rfl (by kernel_rfl) (by kernel_rfl) (fun _ _ _ h => h) (Or.inl ⟨by rfl, ?_⟩) hS ?_
      rotate_left
      · rintro W ⟨y, rfl⟩
        go_simp
        (try with_reducible rfl)
      simp only [Act.put, List.setIfInBounds_toArray, List.set_cons_zero, List.set_cons_succ]
      refine ord_take (v := ?_) 12 rfl rfl (by kernel_rfl) (by kernel_rfl) (fun _ _ _ h => h) (Or.inl ⟨by rfl, ?_⟩) hS ?_
      rotate_left
      · rintro W ⟨y, rfl⟩
        go_simp
        (try with_reducible rfl)
      simp only [Act.put, List.setIfInBounds_toArray, List.set_cons_zero, List.set_cons_succ]
      refine ord_take (v := ?_) 13 rfl rfl (by kernel_rfl) (by kernel_rfl) (fun _ _ _ h => h) (Or.inl ⟨by rfl, ?_⟩) hS ?_
      rotate_left
      · rintro W ⟨y, rfl⟩
        go_simp
        (try with_reducible rfl)
      simp only [Act.put, List.setIfInBounds_toArray, List.set_cons_zero, List.set_cons_succ]
      refine ord_take (v := ?_) 14 rfl rfl (by kernel_rfl) (by kernel_rfl) (fun _ _ _ h => h) (Or.inl ⟨by rfl, ?_⟩) hS ?_
      rotate_left
      · rintro W ⟨y, rfl⟩
        go_simp
        (try with_reducible rfl)
      simp only [Act.put, List.setIfInBounds_toArray, List.set_cons_zero, List.set_cons_succ]
      clear hS HG HAo HMo
      refine ⟨by kernel_rfl, ?_⟩
      refine NoPanic.normal ?_
      have Qd := btr Qc HB
      have HJ2 := Lib.hid (HJC.out A3 c3 A4 c4 _ hca (hsb.below HB) (hsc.below HB))
      clear HO3 hsb hsc HJC Qc
      go_wp2_with fail
      refine HJ2.out.mono ?_; rintro e we ⟨A6, c6, rfl, ho6, b9⟩
      have hs6 := own_sl ho6
      have hs7 := hsd.below b9
      clear HJ2 hsd ho6
      go_wp2_with fail
      refine (sameSg_any _ _ _ _ _ _ J _ hnj3 hs7 hs6).mono ?_; rintro e w12 ⟨rfl, q7, rfl⟩
      go_wp2_with fail
      go_ret
      exact ⟨rfl, bdrewN (btr B6 (btr Qd b9)) _⟩
    · have g1 : decide (0 < j) = false := decide_eq_false hj0
      go_upto_region 8 with (fail)
      refine wp_region_ord (fun W => ∃ y : Grown wb, W = y.world) [] 17 (by kernel_rfl) (by kernel_rfl) ⟨⟨_, bdrew (Below.refl _ _)⟩, rfl⟩ ?_
      intro hS
      have HAo := Lib.hid fun (V : World) (hV : ∃ y : Grown wb, V = y.world) => (show BC V gF C by obtain ⟨y, rfl⟩ := hV; exact HFB.out _ (btr Qb y.below))
      have HMo := Lib.hid fun (V : World) (hV : ∃ y : Grown wb, V = y.world) => (show BC V gM (mtC oneM) by obtain ⟨y, rfl⟩ := hV; exact HMB.out _ (btr Qb y.below))
      have HG := Lib.hid (fun (V : World) (hV : Below wb.heap.size wb V) => (⟨⟨V, hV⟩, rfl⟩ : ∃ y : Grown wb, V = y.world))
      have HB := bdrew (Below.refl wb.heap.size wb)
      refine ord_take 0 rfl rfl (by kernel_rfl) (by kernel_rfl) (fun _ _ _ h => h) (yieldsIf_rec (by rfl) _ _ rfl _ rfl _ 9 foT HAo.out h9) hS ?_
      simp only [Act.put, List.setIfInBounds_toArray, List.set_cons_zero, List.set_cons_succ]
      refine ord_take 1 rfl rfl (by kernel_rfl) (by kernel_rfl) (fun _ _ _ h => h) (yieldsIf_rec (by rfl) _ _ rfl _ rfl _ 6 matT2 HMo.out rfl) hS ?_
      simp only [Act.put, List.setIfInBounds_toArray, List.set_cons_zero, List.set_cons_succ]
      refine ord_take (v := ?_) 2 rfl rfl (by kernel_rfl) (by kernel_rfl) (fun _ _ _ h => h) (Or.inl ⟨by rfl, ?_⟩) hS ?_
      rotate_left
      · rintro W ⟨y, rfl⟩
        go_simp
        (try with_reducible rfl)
      simp only [Act.put, List.setIfInBounds_toArray, List.set_cons_zero, List.set_cons_succ]
      refine ord_take (v := ?_) 3 rfl rfl (by kernel_rfl) (by kernel_rfl) (fun _ _ _ h => h) (Or.inl ⟨by rfl, ?_⟩) hS ?_
      rotate_left
      · rintro W ⟨y, rfl⟩
        go_simp
        (try with_reducible rfl)
      simp only [Act.put, List.setIfInBounds_toArray, List.set_cons_zero, List.set_cons_succ]
      refine ord_take (v := ?_) 4 rfl rfl (by kernel_rfl) (by kernel_rfl) (fun _ _ _ h => h) (Or.inl ⟨by rfl, ?_⟩) hS ?_
      rotate_left
      · rintro W ⟨y, rfl⟩
        go_simp
        (try with_reducible rfl)
      simp only [Act.put, List.setIfInBounds_toArray, List.set_cons_zero, List.set_cons_succ]
      refine ord_take (v := ?_) 5 rfl rfl (by kernel_rfl) (by kernel_rfl) (fun _ _ _ h => h) (Or.inl ⟨by rfl, ?_⟩) hS ?_
      rotate_left
      · rintro W ⟨y, rfl⟩
        go_simp
        (try with_reducible rfl)
      simp only [Act.put, List.setIfInBounds_toArray, List.set_cons_zero, List.set_cons_succ]
      refine ord_take (v := ?_) 6 rfl rfl (by kernel_rfl) (by kernel_rfl) (fun _ _ _ h => h) (Or.inl ⟨by rfl, ?_⟩) hS ?_
      rotate_left
      · rintro W ⟨y, rfl⟩
        go_simp
        (try with_reducible rfl)
      simp only [Act.put, List.setIfInBounds_toArray, List.set_cons_zero, List.set_cons_succ]
      clear hS
      refine ord_one 7 rfl (by kernel_rfl) rfl ?_
      intro K hK
      go_simp
      refine (HO2.out _ (btr Qb HB)).mono ?_; rintro e wn ⟨b8, A4, c4, rfl, hsc⟩
      have Hn := btr HB b8
      refine hK.out _ _ (HG.out _ Hn) ?_
      clear hK K HB b8
      have HB := Hn
      clear Hn
      try simp only
      have hS := HG.out _ HB
      refine ord_take (v := ?_) 8 rfl rfl (by kernel_rfl) (by kernel_rfl) (fun _ _ _ h => h) (Or.inl ⟨by rfl, ?_⟩) hS ?_
      rotate_left
      · rintro W ⟨y, rfl⟩
        go_simp
        (try with_reducible rfl)
      simp only [Act.put, List.setIfInBounds_toArray, List.set_cons_zero, List.set_cons_succ]
      refine ord_take (v := ?_) 9 rfl rfl (by kernel_rfl) (by kernel_rfl) (fun _ _ _ h => h) (Or.inl ⟨by rfl, ?_⟩) hS ?_
      rotate_left
      · rintro W ⟨y, rfl⟩
        go_simp
        (try with_reducible rfl)
      simp only [Act.put, List.setIfInBounds_toArray, List.set_cons_zero, List.set_cons_succ]
      refine ord_take (v := ?_) 10 rfl rfl (by kernel_rfl) (by kernel_rfl) (fun _ _ _ h => h) (Or.inl ⟨by rfl, ?_⟩) hS ?_
      rotate_left
      · rintro W ⟨y, rfl⟩
        go_simp
        (try with_reducible rfl)
      simp only [Act.put, List.setIfInBounds_toArray, List.set_cons_zero, List.set_cons_succ]
      refine ord_take (v := ?_) 11 rfl rfl (by kernel_rfl) (by kernel_rfl) (fun _ _ _ h => h) (Or.inl ⟨by rfl, ?_⟩) hS ?_
      rotate_left
      · rintro W ⟨y, rfl⟩
        go_simp
        (try with_reducible rfl)
      simp only [Act.put, List.setIfInBounds_toArray, List.set_cons_zero, List.set_cons_succ]
      refine ord_take (v := ?_) 12 rfl rfl (by kernel_rfl) (by kernel_rfl) (fun _ _ _ h => h) (Or.inl ⟨by rfl, ?_⟩) hS ?_
      rotate_left
      · rintro W ⟨y, rfl⟩
        go_simp
        (try with_reducible rfl)
      simp only [Act.put, List.setIfInBounds_toArray, List.set_cons_zero, List.set_cons_succ]
      refine ord_take (v := ?_) 13 rfl rfl (by kernel_rfl) (by kernel_rfl) (fun _ _ _ h => h) (Or.inl ⟨by rfl, ?_⟩) hS ?_
      rotate_left
      · rintro W ⟨y, rfl⟩
        go_simp
        (try with_reducible rfl)
      simp only [Act.put, List.setIfInBounds_toArray, List.set_cons_zero, List.set_cons_succ]
      refine ord_take (v := ?_) 14 rfl rfl (by kernel_rfl) (by kernel_rfl) (fun _ _ _ h => h) (Or.inl ⟨by rfl, ?_⟩) hS ?_
      rotate_left
      · rintro W ⟨y, rfl⟩
        go_simp
        (try with_reducible rfl)
      simp only [Act.put, List.setIfInBounds_toArray, List.set_cons_zero, List.set_cons_succ]
      refine ord_take (v := ?_) 15 rfl rfl (by kernel_rfl) (by kernel_rfl) (fun _ _ _ h => h) (Or.inl ⟨by rfl, ?_⟩) hS ?_
      rotate_left
      · rintro W ⟨y, rfl⟩
        go_simp
        (try with_reducible rfl)
      simp only [Act.put, List.setIfInBounds_toArray, List.set_cons_zero, List.set_cons_succ]
      refine ord_take (v := ?_) 16 rfl rfl (by kernel_rfl) (by kernel_rfl) (fun _ _ _ h => h) (Or.inl ⟨by rfl, ?_⟩) hS ?_
      rotate_left
      · rintro W ⟨y, rfl⟩
        go_simp
        (try with_reducible rfl)
      simp only [Act.put, List.setIfInBounds_toArray, List.set_cons_zero, List.set_cons_succ]
      clear hS HG HAo HMo
      refine ⟨by kernel_rfl, ?_⟩
      refine NoPanic.normal ?_
      obtain ⟨wc, hwc⟩ : ∃ W, W = wn := ⟨_, rfl⟩
      rw [← hwc] at HB hsc ⊢
      have Qc := btr Qb HB
      replace hsb := hsb.below HB
      clear hwc HB Qb HO2 hc2
      go_upto_region 9 with (fail)
      refine wp_region_ord (fun W => ∃ y : Grown wc, W = y.world) [] 15 (by kernel_rfl) (by kernel_rfl) ⟨⟨_, bdrew (Below.refl _ _)⟩, rfl⟩ ?_
      intro hS
      have HAo := Lib.hid fun (V : World) (hV : ∃ y : Grown wc, V = y.world) => (show BC V gF C by obtain ⟨y, rfl⟩ := hV; exact HFB.out _ (btr Qc y.below))
      have HMo := Lib.hid fun (V : World) (hV : ∃ y : Grown wc, V = y.world) => (show BC V gM (mtC oneM) by obtain ⟨y, rfl⟩ := hV; exact HMB.out _ (btr Qc y.below))
      have HG := Lib.hid (fun (V : World) (hV : Below wc.heap.size wc V) => (⟨⟨V, hV⟩, rfl⟩ : ∃ y : Grown wc, V = y.world))
      have HB := bdrew (Below.refl wc.heap.size wc)
      refine ord_take 0 rfl rfl (by kernel_rfl) (by kernel_rfl) (fun _ _ _ h => h) (yieldsIf_rec (by rfl) _ _ rfl _ rfl _ 9 foT HAo.out h9) hS ?_
      simp only [Act.put, List.setIfInBounds_toArray, List.set_cons_zero, List.set_cons_succ]
      refine ord_take 1 rfl rfl (by kernel_rfl) (by kernel_rfl) (fun _ _ _ h => h) (yieldsIf_rec (by rfl) _ _ rfl _ rfl _ 6 matT2 HMo.out rfl) hS ?_
      simp only [Act.put, List.setIfInBounds_toArray, List.set_cons_zero, List.set_cons_succ]
      refine ord_take (v := ?_) 2 rfl rfl (by kernel_rfl) (by kernel_rfl) (fun _ _ _ h => h) (Or.inl ⟨by rfl, ?_⟩) hS ?_
      rotate_left
      · rintro W ⟨y, rfl⟩
        go_simp
        (try with_reducible rfl)
      simp only [Act.put, List.setIfInBounds_toArray, List.set_cons_zero, List.set_cons_succ]
      refine ord_take (v := ?_) 4 rfl rfl (by kernel_rfl) (by kernel_rfl) (fun _ _ _ h => h) (Or.inl ⟨by rfl, ?_⟩) hS ?_
      rotate_left
      · rintro W ⟨y, rfl⟩
        go_simp
        (try with_reducible rfl)
      simp only [Act.put, List.setIfInBounds_toArray, List.set_cons_zero, List.set_cons_succ]
      clear hS
      refine ord_one 3 rfl (by kernel_rfl) rfl ?_
      intro K hK
      go_simp
      refine (HSX.out _).mono ?_; rintro e w' ⟨rfl, rfl⟩
      refine hK.out _ _ (HG.out _ HB) ?_
      clear hK K
      try simp only
      have hS := HG.out _ HB
      clear hS
      refine ord_one 5 rfl (by kernel_rfl) rfl ?_
      intro K hK
      go_simp
      refine (HO3.out _ (btr Qc HB)).mono ?_; rintro e wn ⟨b8, A5, c5, rfl, hsd⟩
      have Hn := btr HB b8
      refine hK.out _ _ (HG.out _ Hn) ?_
      clear hK K HB b8
      have HB := Hn
      clear Hn
      try simp only
      have hS := HG.out _ HB
      refine ord_take (v := ?_) 6 rfl rfl (by kernel_rfl) (by kernel_rfl) (fun _ _ _ h => h) (Or.inl ⟨by rfl, ?_⟩) hS ?_
      rotate_left
      · rintro W ⟨y, rfl⟩
        go_simp
        (try with_reducible rfl)
      simp only [Act.put, List.setIfInBounds_toArray, List.set_cons_zero, List.set_cons_succ]
      refine ord_take (v := ?_) 7 rfl rfl (by kernel_rfl) (by kernel_rfl) (fun _ _ _ h => h) (Or.inl ⟨by rfl, ?_⟩) hS ?_
      rotate_left
      · rintro W ⟨y, rfl⟩
        go_simp
        (try with_reducible rfl)
      simp only [Act.put, List.setIfInBounds_toArray, List.set_cons_zero, List.set_cons_succ]
      refine ord_take (v := ?_) 8 rfl rfl (by kernel_rfl) (by kernel_rfl) (fun _ _ _ h => h) (Or.inl ⟨by rfl, ?_⟩) hS ?_
      rotate_left
      · rintro W ⟨y, rfl⟩
        go_simp
        (try with_reducible rfl)
      simp only [Act.put, List.setIfInBounds_toArray, List.set_cons_zero, List.set_cons_succ]
      refine ord_take (v := ?_) 9 rfl rfl (by kernel_rfl) (by kernel_rfl) (fun _ _ _ h => h) (Or.inl ⟨by rfl, ?_⟩) hS ?_
      rotate_left
      · rintro W ⟨y, rfl⟩
        go_simp
        (try with_reducible rfl)
      simp only [Act.put, List.setIfInBounds_toArray, List.set_cons_zero, List.set_cons_succ]
      refine ord_take (v := ?_) 10 rfl rfl (by kernel_rfl) (by kernel_rfl) (fun _ _ _ h => h) (Or.inl ⟨by rfl, ?_⟩) hS ?_
      rotate_left
      · rintro W ⟨y, rfl⟩
        go_simp
        (try with_reducible rfl)
      simp only [Act.put, List.setIfInBounds_toArray, List.set_cons_zero, List.set_cons_succ]
      refine ord_take (v := ?_) 11 rfl rfl (by kernel_rfl) (by kernel_rfl) (fun _ _ _ h => h) (Or.inl ⟨by rfl, ?_⟩) hS ?_
      rotate_left
      · rintro W ⟨y, rfl⟩
        go_simp
        (try with_reducible rfl)
      simp only [Act.put, List.setIfInBounds_toArray, List.set_cons_zero, List.set_cons_succ]
      refine ord_take (v := ?_) 12 rfl rfl (by kernel_rfl) (by kernel_rfl) (fun _ _ _ h => h) (Or.inl ⟨by rfl, ?_⟩) hS ?_
      rotate_left
      · rintro W ⟨y, rfl⟩
        go_simp
        (try with_reducible rfl)
      simp only [Act.put, List.setIfInBounds_toArray, List.set_cons_zero, List.set_cons_succ]
      refine ord_take (v := ?_) 13 rfl rfl (by kernel_rfl) (by kernel_rfl) (fun _ _ _ h => h) (Or.inl ⟨by rfl, ?_⟩) hS ?_
      rotate_left
      · rintro W ⟨y, rfl⟩
        go_simp
        (try with_reducible rfl)
      simp only [Act.put, List.setIfInBounds_toArray, List.set_cons_zero, List.set_cons_succ]
      refine ord_take (v := ?_) 14 rfl rfl (by kernel_rfl) (by kernel_rfl) (fun _ _ _ h => h) (Or.inl ⟨by rfl, ?_⟩) hS ?_
      rotate_left
      · rintro W ⟨y, rfl⟩
        go_simp
        (try with_reducible rfl)
      simp only [Act.put, List.setIfInBounds_toArray, List.set_cons_zero, List.set_cons_succ]
      clear hS HG HAo HMo
      refine ⟨by kernel_rfl, ?_⟩
      refine NoPanic.normal ?_
      have Qd := btr Qc HB
      have HJ2 := Lib.hid (HJC.out A3 c3 A4 c4 _ hca (hsb.below HB) (hsc.below HB))
      clear HO3 hsb hsc HJC Qc
      go_wp2_with fail
      refine HJ2.out.mono ?_; rintro e we ⟨A6, c6, rfl, ho6, b9⟩
      have hs6 := own_sl ho6
      have hs7 := hsd.below b9
      clear HJ2 hsd ho6
      go_wp2_with fail
      refine (sameSg_any _ _ _ _ _ _ J _ hnj3 hs7 hs6).mono ?_; rintro e w12 ⟨rfl, q7, rfl⟩
      go_wp2_with fail
      go_ret
      exact ⟨rfl, bdrewN (btr B6 (btr Qd b9)) _⟩
end Go.Proofs.Ytahiffaocakhjaa
