/- tympanlaw40.piece: numbers and operators by numbers. -/
import Derived.Test.YtoehkfinchnadaaGMade1
namespace Go.Proofs.Ytoehkfinchnadaa
open Go.RowKit Go.BigFrame

theorem and1 {z : Int} (h : 0 ≤ z ∧ z < 24) : bits .and .i64 z 1 = z % 2 := by
  obtain ⟨n, rfl⟩ := Int.eq_ofNat_of_zero_le h.1
  have hx : n &&& 1 ≤ 1 := by rw [Nat.and_one_is_mod]; omega
  show IntKind.i64.wrap ((BitVec.ofInt 64 (n : Int) &&& BitVec.ofInt 64 ((1 : Nat) : Int)).toNat : Int) = _
  have q : ∀ c : Nat, c < 65536 → (BitVec.ofInt 64 (c : Int)).toNat = c := fun c hc => by rw [BitVec.ofInt_natCast, BitVec.toNat_ofNat]; exact Nat.mod_eq_of_lt (by omega)
  rw [BitVec.toNat_and, q n (by omega), q 1 (by omega), IntWalk.i64_in _ (by omega), Nat.and_one_is_mod]
  simp
set_option maxRecDepth 100000 in
set_option maxHeartbeats 4000000 in
theorem piece40_any (g most np : Nat) (w : World) (h : LN w g) (hmost : most ≤ 40) (hnp : np ≤ 4) :
    Calls Try.prog 11 #[.pointer (some ⟨g, 0, none⟩), .int .i64 (most : Int), .int .i64 (np : Int)] w fun e w' => ∃ m A c xs, e = .returned (.slice A m c) ∧ m ≤ 400 ∧ BS w g w' A m c xs := by
  have hgw := LN_lt h
  go_enter Try.func11, Try.ntmps11
  go_wp2
  go_loopw [7, 8] (fun s7 s8 wr => ∃ (k m : Nat) (A : Option Addr) (c : Nat) (xs : List Int), k ≤ most ∧ m ≤ 10 * k ∧ s7 = .slice A m c ∧ s8 = .int .i64 (k : Int) ∧ BS w g wr A m c xs) (fun _ s8 _ => most - (intOf s8).toNat)
  case atStart => exact ⟨0, 0, none, 0, [], by omega, by omega, rfl, rfl, own_nil, h, grefl _ _⟩
  case round =>
    obtain ⟨k, m, A, c, xs, hk, hm, rfl, rfl, hB⟩ := hrel
    by_cases hlt : k < most
    · obtain ⟨Al, nl, cl, hcl, _, _, _, _, _⟩ := id hB.ln
      by_cases hz : nl = 0
      · subst hz
        go_wp2_with fail
        go_ret
        exact ⟨m, A, c, xs, rfl, by omega, hB⟩
      · have hz1 : decide ((nl : Int) > 0) = true := by simp; omega
        have hz2 : (0 : Nat) < nl := by omega
        go_wp2_with fail
        refine (Next_any g 24 _ (by omega) hB.ln).mono ?_; rintro e wn ⟨⟨v, rfl, hn1, hn2⟩, hln, hgn⟩
        replace hB := hB.next hgw hln hgn
        clear hln hgn
        clear hcl
        have hv1 := hn1
        have hv2 := hn2
        clear hn1 hn2
        have hcase : v < 3 ∨ v = 3 ∨ v = 4 ∨ (4 < v ∧ v < 9) ∨ (9 ≤ v ∧ v < 12) ∨ (12 ≤ v ∧ v < 14) ∨ v = 14 ∨ (14 < v ∧ v < 17) ∨ (17 ≤ v ∧ v < 20) ∨ (20 ≤ v ∧ v < 22) ∨ 22 ≤ v := by omega
        have ha1 := and1 (z := v) (by omega)
        rcases hcase with q | q | q | ⟨q, q'⟩ | ⟨q, q'⟩ | ⟨q, q'⟩ | q | ⟨q, q'⟩ | ⟨q, q'⟩ | ⟨q, q'⟩ | q
        · go_wp2_with fail
          refine (Next_any g 60 _ (by omega) hB.ln).mono ?_; rintro e wn ⟨⟨z, rfl, hn1, hn2⟩, hln, hgn⟩
          replace hB := hB.next hgw hln hgn
          clear hln hgn
          go_wp2_with (at_builtin; refine wpList_app rfl _ _ 36 rfl w.heap.size u8T rfl (BS.own (BS.al hB _)) (u8c [_]) rfl (sl_new _ rfl rfl) (oneU8 [_]) (by omega) (BS.sz (BS.al hB _)) ?_; intro A2 c2 w2 hown2 hg2 hat2; have hBz := BS.app (BS.al hB _) hgw hown2 hg2; clear hown2 hg2 hat2)
          go_roundw
          case rel => exact ⟨k + 1, _, A2, c2, _, by omega, by omega, rfl, by simp, hBz⟩
          case measure => simp [intOf]; omega
        · subst q
          go_wp2_with fail
          refine (Next_any g 8 _ (by omega) hB.ln).mono ?_; rintro e wn ⟨⟨z, rfl, hn1, hn2⟩, hln, hgn⟩
          replace hB := hB.next hgw hln hgn
          clear hln hgn
          go_wp2_with fail
          refine (Next_any g 256 _ (by omega) hB.ln).mono ?_; rintro e wn ⟨⟨y, rfl, hn1, hn2⟩, hln, hgn⟩
          replace hB := hB.next hgw hln hgn
          clear hln hgn
          go_wp2_with (at_builtin; refine wpList_app rfl _ _ 36 rfl w.heap.size u8T rfl (BS.own (BS.al hB _)) (u8c [_, _]) rfl (sl_new _ rfl rfl) (oneU8 [_, _]) (by omega) (BS.sz (BS.al hB _)) ?_; intro A2 c2 w2 hown2 hg2 hat2; have hBz := BS.app (BS.al hB _) hgw hown2 hg2; clear hown2 hg2 hat2)
          go_roundw
          case rel => exact ⟨k + 1, _, A2, c2, _, by omega, by omega, rfl, by simp, hBz⟩
          case measure => simp [intOf]; omega
        · subst q
          go_wp2_with fail
          refine (Next_any g 2 _ (by omega) hB.ln).mono ?_; rintro e wn ⟨⟨z, rfl, hn1, hn2⟩, hln, hgn⟩
          replace hB := hB.next hgw hln hgn
          clear hln hgn
          go_wp2_with fail
          refine (Next_any g 256 _ (by omega) hB.ln).mono ?_; rintro e wn ⟨⟨y, rfl, hn1, hn2⟩, hln, hgn⟩
          replace hB := hB.next hgw hln hgn
          clear hln hgn
          go_wp2_with (at_builtin; refine wpList_app rfl _ _ 36 rfl w.heap.size u8T rfl (BS.own (BS.al hB _)) (u8c [_, _, _]) rfl (sl_new _ rfl rfl) (oneU8 [_, _, _]) (by omega) (BS.sz (BS.al hB _)) ?_; intro A2 c2 w2 hown2 hg2 hat2; have hBz := BS.app (BS.al hB _) hgw hown2 hg2; clear hown2 hg2 hat2)
          go_roundw
          case rel => exact ⟨k + 1, _, A2, c2, _, by omega, by omega, rfl, by simp, hBz⟩
          case measure => simp [intOf]; omega
        · have e3 : (v == 3) = false := by rw [beq_eq_false_iff_ne]; omega
          have e4 : (v == 4) = false := by rw [beq_eq_false_iff_ne]; omega
          have g3 : ¬ v < 3 := by omega
          go_wp2_with fail
          refine (numbers_any g 2 _ hB.ln (by omega)).mono ?_; rintro e wm ⟨A5, c5, ys, rfl, hB5⟩
          have hS5 := own_sl hB5.own
          have hB6 : BS w g wm _ _ _ _ := BS.next hB hgw hB5.ln hB5.gr
          clear hB5
          go_wp2_with (first | (at_builtin; refine wpList_app rfl _ _ 36 rfl w.heap.size u8T rfl (BS.own hB6) (u8c ys) rfl hS5 (oneU8 ys) (by omega) (BS.sz hB6) ?_; intro A6 c6 w6 hown2 hg2 hat2; have hB7 := BS.app hB6 hgw hown2 hg2; clear hown2 hg2 hat2) | (at_builtin; refine wpList_app rfl _ _ 36 rfl w.heap.size u8T rfl (BS.own (BS.al hB7 _)) (u8c [_]) rfl (sl_new _ rfl rfl) (oneU8 [_]) (by omega) (BS.sz (BS.al hB7 _)) ?_; intro A2 c2 w2 hown2 hg2 hat2; have hBz := BS.app (BS.al hB7 _) hgw hown2 hg2; clear hown2 hg2 hat2) | fail)
          go_roundw
          case rel => exact ⟨k + 1, _, A2, c2, _, by omega, by omega, rfl, by simp, hBz⟩
          case measure => simp [intOf]; omega
        · have e3 : (v == 3) = false := by rw [beq_eq_false_iff_ne]; omega
          have e4 : (v == 4) = false := by rw [beq_eq_false_iff_ne]; omega
          have g3 : ¬ v < 3 := by omega
          have g9 : ¬ v < 9 := by omega
          go_wp2_with fail
          refine (numbers_any g 4 _ hB.ln (by omega)).mono ?_; rintro e wm ⟨A5, c5, ys, rfl, hB5⟩
          have hS5 := own_sl hB5.own
          have hB6 : BS w g wm _ _ _ _ := BS.next hB hgw hB5.ln hB5.gr
          clear hB5
          go_wp2_with (first | (at_builtin; refine wpList_app rfl _ _ 36 rfl w.heap.size u8T rfl (BS.own hB6) (u8c ys) rfl hS5 (oneU8 ys) (by omega) (BS.sz hB6) ?_; intro A6 c6 w6 hown2 hg2 hat2; have hB7 := BS.app hB6 hgw hown2 hg2; clear hown2 hg2 hat2) | (at_builtin; refine wpList_app rfl _ _ 36 rfl w.heap.size u8T rfl (BS.own (BS.al hB7 _)) (u8c [_]) rfl (sl_new _ rfl rfl) (oneU8 [_]) (by omega) (BS.sz (BS.al hB7 _)) ?_; intro A2 c2 w2 hown2 hg2 hat2; have hBz := BS.app (BS.al hB7 _) hgw hown2 hg2; clear hown2 hg2 hat2) | fail)
          go_roundw
          case rel => exact ⟨k + 1, _, A2, c2, _, by omega, by omega, rfl, by simp, hBz⟩
          case measure => simp [intOf]; omega
        · have e3 : (v == 3) = false := by rw [beq_eq_false_iff_ne]; omega
          have e4 : (v == 4) = false := by rw [beq_eq_false_iff_ne]; omega
          have g3 : ¬ v < 3 := by omega
          have g9 : ¬ v < 9 := by omega
          have g12 : ¬ v < 12 := by omega
          go_wp2_with fail
          refine (numbers_any g 1 _ hB.ln (by omega)).mono ?_; rintro e wm ⟨A5, c5, ys, rfl, hB5⟩
          have hS5 := own_sl hB5.own
          have hB6 : BS w g wm _ _ _ _ := BS.next hB hgw hB5.ln hB5.gr
          clear hB5
          go_wp2_with (first | (at_builtin; refine wpList_app rfl _ _ 36 rfl w.heap.size u8T rfl (BS.own hB6) (u8c ys) rfl hS5 (oneU8 ys) (by omega) (BS.sz hB6) ?_; intro A6 c6 w6 hown2 hg2 hat2; have hB7 := BS.app hB6 hgw hown2 hg2; clear hown2 hg2 hat2) | (at_builtin; refine wpList_app rfl _ _ 36 rfl w.heap.size u8T rfl (BS.own (BS.al hB7 _)) (u8c [_]) rfl (sl_new _ rfl rfl) (oneU8 [_]) (by omega) (BS.sz (BS.al hB7 _)) ?_; intro A2 c2 w2 hown2 hg2 hat2; have hBz := BS.app (BS.al hB7 _) hgw hown2 hg2; clear hown2 hg2 hat2) | fail)
          go_roundw
          case rel => exact ⟨k + 1, _, A2, c2, _, by omega, by omega, rfl, by simp, hBz⟩
          case measure => simp [intOf]; omega
        · subst q
          go_wp2_with fail
          refine (numbers_any g 1 _ hB.ln (by omega)).mono ?_; rintro e wm ⟨A5, c5, ys, rfl, hB5⟩
          have hS5 := own_sl hB5.own
          have hB6 : BS w g wm _ _ _ _ := BS.next hB hgw hB5.ln hB5.gr
          clear hB5
          go_wp2_with (first | (at_builtin; refine wpList_app rfl _ _ 36 rfl w.heap.size u8T rfl (BS.own hB6) (u8c ys) rfl hS5 (oneU8 ys) (by omega) (BS.sz hB6) ?_; intro A6 c6 w6 hown2 hg2 hat2; have hB7 := BS.app hB6 hgw hown2 hg2; clear hown2 hg2 hat2) | (at_builtin; refine wpList_app rfl _ _ 36 rfl w.heap.size u8T rfl (BS.own (BS.al hB7 _)) (u8c [_]) rfl (sl_new _ rfl rfl) (oneU8 [_]) (by omega) (BS.sz (BS.al hB7 _)) ?_; intro A2 c2 w2 hown2 hg2 hat2; have hBz := BS.app (BS.al hB7 _) hgw hown2 hg2; clear hown2 hg2 hat2) | fail)
          go_roundw
          case rel => exact ⟨k + 1, _, A2, c2, _, by omega, by omega, rfl, by simp, hBz⟩
          case measure => simp [intOf]; omega
        · have e3 : (v == 3) = false := by rw [beq_eq_false_iff_ne]; omega
          have e4 : (v == 4) = false := by rw [beq_eq_false_iff_ne]; omega
          have g3 : ¬ v < 3 := by omega
          have g9 : ¬ v < 9 := by omega
          have g12 : ¬ v < 12 := by omega
          have g14 : ¬ v < 14 := by omega
          have e14 : (v == 14) = false := by rw [beq_eq_false_iff_ne]; omega
          go_wp2_with (at_builtin; refine wpList_app rfl _ _ 36 rfl w.heap.size u8T rfl (BS.own (BS.al hB _)) (u8c [_]) rfl (sl_new _ rfl rfl) (oneU8 [_]) (by omega) (BS.sz (BS.al hB _)) ?_; intro A2 c2 w2 hown2 hg2 hat2; have hBz := BS.app (BS.al hB _) hgw hown2 hg2; clear hown2 hg2 hat2)
          go_roundw
          case rel => exact ⟨k + 1, _, A2, c2, _, by omega, by omega, rfl, by simp, hBz⟩
          case measure => simp [intOf]; omega
        · have e3 : (v == 3) = false := by rw [beq_eq_false_iff_ne]; omega
          have e4 : (v == 4) = false := by rw [beq_eq_false_iff_ne]; omega
          have g3 : ¬ v < 3 := by omega
          have g9 : ¬ v < 9 := by omega
          have g12 : ¬ v < 12 := by omega
          have g14 : ¬ v < 14 := by omega
          have e14 : (v == 14) = false := by rw [beq_eq_false_iff_ne]; omega
          have g17 : ¬ v < 17 := by omega
          go_wp2_with fail
          refine (Next_any g ((np : Int) + 1) _ (by omega) hB.ln).mono ?_; rintro e wn ⟨⟨z, rfl, hn1, hn2⟩, hln, hgn⟩
          replace hB := hB.next hgw hln hgn
          clear hln hgn
          go_wp2_with (at_builtin; refine wpList_app rfl _ _ 36 rfl w.heap.size u8T rfl (BS.own (BS.al hB _)) (u8c [_, _]) rfl (sl_new _ rfl rfl) (oneU8 [_, _]) (by omega) (BS.sz (BS.al hB _)) ?_; intro A2 c2 w2 hown2 hg2 hat2; have hBz := BS.app (BS.al hB _) hgw hown2 hg2; clear hown2 hg2 hat2)
          go_roundw
          case rel => exact ⟨k + 1, _, A2, c2, _, by omega, by omega, rfl, by simp, hBz⟩
          case measure => simp [intOf]; omega
        · have e3 : (v == 3) = false := by rw [beq_eq_false_iff_ne]; omega
          have e4 : (v == 4) = false := by rw [beq_eq_false_iff_ne]; omega
          have g3 : ¬ v < 3 := by omega
          have g9 : ¬ v < 9 := by omega
          have g12 : ¬ v < 12 := by omega
          have g14 : ¬ v < 14 := by omega
          have e14 : (v == 14) = false := by rw [beq_eq_false_iff_ne]; omega
          have g17 : ¬ v < 17 := by omega
          have g20 : ¬ v < 20 := by omega
          go_wp2_with fail
          refine (Next_any g 3 _ (by omega) hB.ln).mono ?_; rintro e wn ⟨⟨z, rfl, hn1, hn2⟩, hln, hgn⟩
          replace hB := hB.next hgw hln hgn
          clear hln hgn
          have hz3 : z = 0 ∨ z = 1 ∨ z = 2 := by omega
          clear hn1 hn2
          rcases hz3 with rfl | rfl | rfl
          · go_wp2_with fail
            refine (numbers_any g 2 _ hB.ln (by omega)).mono ?_; rintro e wm ⟨A5, c5, ys, rfl, hB5⟩
            have hS5 := own_sl hB5.own
            have hB6 : BS w g wm _ _ _ _ := BS.next hB hgw hB5.ln hB5.gr
            clear hB5
            go_wp2_with (first | (at_builtin; refine wpList_app rfl _ _ 36 rfl w.heap.size u8T rfl (BS.own hB6) (u8c ys) rfl hS5 (oneU8 ys) (by omega) (BS.sz hB6) ?_; intro A6 c6 w6 hown2 hg2 hat2; have hB7 := BS.app hB6 hgw hown2 hg2; clear hown2 hg2 hat2) | (at_builtin; refine wpList_app rfl _ _ 36 rfl w.heap.size u8T rfl (BS.own (BS.al hB7 _)) (u8c [_]) rfl (sl_new _ rfl rfl) (oneU8 [_]) (by omega) (BS.sz (BS.al hB7 _)) ?_; intro A2 c2 w2 hown2 hg2 hat2; have hBz := BS.app (BS.al hB7 _) hgw hown2 hg2; clear hown2 hg2 hat2) | fail)
            go_roundw
            case rel => exact ⟨k + 1, _, A2, c2, _, by omega, by omega, rfl, by simp, hBz⟩
            case measure => simp [intOf]; omega
          · go_wp2_with fail
            refine (numbers_any g 4 _ hB.ln (by omega)).mono ?_; rintro e wm ⟨A5, c5, ys, rfl, hB5⟩
            have hS5 := own_sl hB5.own
            have hB6 : BS w g wm _ _ _ _ := BS.next hB hgw hB5.ln hB5.gr
            clear hB5
            go_wp2_with (first | (at_builtin; refine wpList_app rfl _ _ 36 rfl w.heap.size u8T rfl (BS.own hB6) (u8c ys) rfl hS5 (oneU8 ys) (by omega) (BS.sz hB6) ?_; intro A6 c6 w6 hown2 hg2 hat2; have hB7 := BS.app hB6 hgw hown2 hg2; clear hown2 hg2 hat2) | (at_builtin; refine wpList_app rfl _ _ 36 rfl w.heap.size u8T rfl (BS.own (BS.al hB7 _)) (u8c [_]) rfl (sl_new _ rfl rfl) (oneU8 [_]) (by omega) (BS.sz (BS.al hB7 _)) ?_; intro A2 c2 w2 hown2 hg2 hat2; have hBz := BS.app (BS.al hB7 _) hgw hown2 hg2; clear hown2 hg2 hat2) | fail)
            go_roundw
            case rel => exact ⟨k + 1, _, A2, c2, _, by omega, by omega, rfl, by simp, hBz⟩
            case measure => simp [intOf]; omega
          · go_wp2_with fail
            refine (numbers_any g 6 _ hB.ln (by omega)).mono ?_; rintro e wm ⟨A5, c5, ys, rfl, hB5⟩
            have hS5 := own_sl hB5.own
            have hB6 : BS w g wm _ _ _ _ := BS.next hB hgw hB5.ln hB5.gr
            clear hB5
            go_wp2_with (first | (at_builtin; refine wpList_app rfl _ _ 36 rfl w.heap.size u8T rfl (BS.own hB6) (u8c ys) rfl hS5 (oneU8 ys) (by omega) (BS.sz hB6) ?_; intro A6 c6 w6 hown2 hg2 hat2; have hB7 := BS.app hB6 hgw hown2 hg2; clear hown2 hg2 hat2) | (at_builtin; refine wpList_app rfl _ _ 36 rfl w.heap.size u8T rfl (BS.own (BS.al hB7 _)) (u8c [_]) rfl (sl_new _ rfl rfl) (oneU8 [_]) (by omega) (BS.sz (BS.al hB7 _)) ?_; intro A2 c2 w2 hown2 hg2 hat2; have hBz := BS.app (BS.al hB7 _) hgw hown2 hg2; clear hown2 hg2 hat2) | fail)
            go_roundw
            case rel => exact ⟨k + 1, _, A2, c2, _, by omega, by omega, rfl, by simp, hBz⟩
            case measure => simp [intOf]; omega
        · have e3 : (v == 3) = false := by rw [beq_eq_false_iff_ne]; omega
          have e4 : (v == 4) = false := by rw [beq_eq_false_iff_ne]; omega
          have g3 : ¬ v < 3 := by omega
          have g9 : ¬ v < 9 := by omega
          have g12 : ¬ v < 12 := by omega
          have g14 : ¬ v < 14 := by omega
          have e14 : (v == 14) = false := by rw [beq_eq_false_iff_ne]; omega
          have g17 : ¬ v < 17 := by omega
          have g20 : ¬ v < 20 := by omega
          have g22 : ¬ v < 22 := by omega
          go_wp2_with fail
          refine (Next_any g 13 _ (by omega) hB.ln).mono ?_; rintro e wn ⟨⟨z, rfl, hn1, hn2⟩, hln, hgn⟩
          replace hB := hB.next hgw hln hgn
          clear hln hgn
          go_wp2_with (at_builtin; refine wpList_app rfl _ _ 36 rfl w.heap.size u8T rfl (BS.own (BS.al hB _)) (u8c [_]) rfl (sl_new _ rfl rfl) (oneU8 [_]) (by omega) (BS.sz (BS.al hB _)) ?_; intro A2 c2 w2 hown2 hg2 hat2; have hBz := BS.app (BS.al hB _) hgw hown2 hg2; clear hown2 hg2 hat2)
          go_roundw
          case rel => exact ⟨k + 1, _, A2, c2, _, by omega, by omega, rfl, by simp, hBz⟩
          case measure => simp [intOf]; omega
    · obtain rfl : k = most := by omega
      go_wp2_with fail
      go_ret
      exact ⟨m, A, c, xs, rfl, by omega, hB⟩
end Go.Proofs.Ytoehkfinchnadaa
