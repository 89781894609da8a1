/- Letters' programs: the pieces of a program; Run. -/
import Derived.Test.YtoehkfinchnadaaGlyph9
namespace Go.Proofs.Ytoehkfinchnadaa
open Go.RowKit Go.BigFrame

theorem run_any (g : Nat) (P : List ByteArray) (hP : P.length ≤ 16) (hPs : ∀ p ∈ P, p.size ≤ 1000000) : ∀ (d deep : Nat), d + deep = 4 → ∀ (s : ByteArray) (M : GM) (w : World), s.size ≤ 1000000 → MS w g P M →
    Calls Try.prog 13 #[.pointer (some ⟨g, 0, none⟩), .string s, .int .i64 (deep : Int)] w (RPost g P w (runD (P.map bl) d (deep == 0) (bl s) M))
  | 0, deep, hd, s, M, w, hs, h => by
    have := run_level g P deep (fun _ _ => .bad 5) M w hP (by omega) (fun _ _ _ => rfl) (fun hlt => by omega) s hs h
    simpa [runD] using this
  | d + 1, deep, hd, s, M, w, hs, h => by
    have := run_level g P deep (fun k M => runD (P.map bl) d false ((P.map bl)[k]?.getD []) M) M w hP (by omega) (fun h4 => by omega) (fun hlt k hk M w hM => by
      have h1 := run_any g P hP hPs d (deep + 1) (by omega) P[k] M w (hPs _ (List.getElem_mem hk)) hM
      have e1 : (deep + 1 == 0) = false := by simp
      have e2 : (P.map bl)[k]?.getD [] = bl P[k] := by rw [List.getElem?_map, List.getElem?_eq_getElem hk]; rfl
      rw [e1] at h1
      rw [e2]
      exact h1) s hs h
    simpa [runD] using this

theorem stT : SlT Try.prog 42 9 1 16 := slT_of Try.underlying42 (by kernel_rfl) (by omega) (by omega)

theorem emp_yes {s : ByteArray} (h : s.size = 0) : s.toList.isEmpty = true := by
  rw [ByteArray.toList_eq]
  have : s.data.toList.length = 0 := by rw [Array.length_toList]; exact h
  rw [List.eq_nil_of_length_eq_zero this]; rfl
theorem emp_no {s : ByteArray} (h : s.size ≠ 0) : s.toList.isEmpty = false := by
  rw [ByteArray.toList_eq]
  have : s.data.toList.length ≠ 0 := by rw [Array.length_toList]; exact h
  cases hh : s.data.toList with
  | nil => rw [hh] at this; exact absurd rfl this
  | cons a l => rfl
theorem bl_mid (s : ByteArray) (a b : Nat) : bl (s.extract a b) = ((bl s).drop a).take (b - a) := by
  have h : (s.extract a b).data.toList = (s.data.toList.drop a).take (b - a) := by
    rw [ByteArray.data_extract, Array.toList_extract, List.extract_eq_take_drop]
  unfold bl
  rw [h, List.map_take, List.map_drop]
set_option maxRecDepth 100000 in
set_option maxHeartbeats 2000000 in
theorem split_any (p : ByteArray) (w : World) (hp : p.size ≤ 1000000) :
    Calls Try.prog 12 #[.string p] w fun e w' => ∃ (Ps : List ByteArray) (left : ByteArray) (A : Option Addr) (c : Nat) (er : Int), e = .returned (.tuple #[.slice A Ps.length c, .string left, .int .i64 er]) ∧
      w'.ownsRow w.heap.size 9 1 (.slice A Ps.length c) Ps.length (strs Ps) ∧ splitG (bl p) = ((Ps.map bl, bl left), er) ∧ Ps.length ≤ 16 ∧ ((∀ q ∈ Ps, q.size ≤ 1000000) ∧ left.size ≤ 1000000) ∧ Below w.heap.size w w' := by
  by_cases h1 : 600 < p.size
  · have HR := Lib.hid (show splitG (bl p) = (([], []), 5) by unfold splitG; rw [if_pos (by rw [bl_len]; exact h1)])
    have hz1 : decide ((p.size : Int) > 600) = true := by simp; omega
    have hz2 : decide (600 < p.size) = true := by simp; omega
    go_enter Try.func12, Try.ntmps12
    go_wp2_with fail
    try rw [Exit.noGoto_ret]
    go_ret3
    exact ⟨[], .empty, none, 0, 5, rfl, own_nil, by rw [HR.out]; rfl, by simp, by simp, Below.refl _ _⟩
  · have hz1 : decide ((p.size : Int) > 600) = false := by simp; omega
    have hz2 : decide (600 < p.size) = false := by simp; omega
    by_cases h0 : p.size = 0
    · have HR := Lib.hid (show splitG (bl p) = (([], []), 4) by unfold splitG; rw [bl_nil h0]; rfl)
      go_enter Try.func12, Try.ntmps12
      have hem := emp_yes h0
      go_wp2_with fail
      try rw [Exit.noGoto_ret]
      go_ret3
      exact ⟨[], .empty, none, 0, 4, rfl, own_nil, by rw [HR.out]; rfl, by simp, by simp, Below.refl _ _⟩
    · have hem := emp_no h0
      have i0 := fun W => run_byt (t := 9) (s := p) (k := 0) (i := 0) rfl Try.underlying9 (by omega) W
      have hb := byt_lt p 0
      obtain ⟨n, hnn⟩ : ∃ n, n = byt p 0 := ⟨_, rfl⟩
      have hbl : bl p = n :: (bl p).drop 1 := by rw [hnn]; exact bl_one (by omega)
      rw [← hnn] at i0 hb
      by_cases h16 : 16 < n
      · have HR := Lib.hid (show splitG (bl p) = (([], []), 3) by
          unfold splitG; rw [if_neg (by rw [bl_len]; omega), hbl]; simp only; rw [if_pos h16])
        have hz3 : decide ((n : Int) > 16) = true := by simp; omega
        have hz4 : decide (16 < (n : Int)) = true := by simp; omega
        have hz5 : decide (16 < n) = true := by simp; omega
        clear hnn hbl
        go_enter Try.func12, Try.ntmps12
        go_wp2_with fail
        try rw [Exit.noGoto_ret]
        go_ret3
        exact ⟨[], .empty, none, 0, 3, rfl, own_nil, by rw [HR.out]; rfl, by simp, by simp, Below.refl _ _⟩
      · have hS : splitG (bl p) = match piecesG n (bl (p.extract 1 p.size)) [] with | none => (([], []), 4) | some r => (r, 0) := by
          rw [bl_cut]; unfold splitG; rw [if_neg (by rw [bl_len]; omega), hbl]; simp only; rw [if_neg h16, List.drop_succ_cons, List.drop_zero]; cases piecesG n ((bl p).drop 1) [] <;> rfl
        have HS := Lib.hid hS
        have hes := extract_size' p 1
        have hz3 : decide ((n : Int) > 16) = false := by simp; omega
        have hz4 : decide (16 < (n : Int)) = false := by simp; omega
        have hz5 : decide (16 < n) = false := by simp; omega
        clear hS hnn hbl
        go_enter Try.func12, Try.ntmps12
        go_wp2_with fail
        go_loopw [2, 3, 21] (fun s2 s3 s21 wr => ∃ (j : Nat) (Ps : List ByteArray) (left : ByteArray) (A : Option Addr) (c : Nat), j ≤ n ∧ s2 = .slice A j c ∧ s3 = .string left ∧ s21 = .int .u8 (j : Int) ∧ left.size ≤ 1000000 ∧
          wr.ownsRow w.heap.size 9 1 (.slice A j c) j (strs Ps) ∧ Below w.heap.size w wr ∧ Hid (piecesG n (bl (p.extract 1 p.size)) [] = piecesG (n - j) (bl left) (Ps.map bl)) ∧ Hid (∀ q ∈ Ps, q.size ≤ 1000000)) (fun _ _ s21 _ => n - (intOf s21).toNat)
        case atStart => exact ⟨0, [], p.extract 1 p.size, none, 0, by omega, rfl, rfl, rfl, by rw [hes]; omega, own_nil, Below.refl _ _, Lib.hid rfl, Lib.hid (by simp)⟩
        case round =>
          obtain ⟨j, Ps, left, A, c, hj, rfl, rfl, rfl, hls, hown, hbr, he, hq⟩ := hrel
          have hPl : Ps.length = j := by have := hown.1; simp [strs] at this; omega
          clear i0 hem
          by_cases hlt : j < n
          · have hz6 : decide ((j : Int) < (n : Int)) = true := by simp; omega
            by_cases hl0 : left.size = 0
            · have hem := emp_yes hl0
              have HR := Lib.hid (show splitG (bl p) = (([], []), 4) by rw [HS.out, he.out, bl_nil hl0, show n - j = (n - j - 1) + 1 by omega]; rfl)
              clear hown he hq
              go_wp2_with fail
              try rw [Exit.noGoto_ret]
              go_ret3
              exact ⟨[], .empty, none, 0, 4, rfl, own_nil, by rw [HR.out]; rfl, by simp, by simp, hbr⟩
            · have hem := emp_no hl0
              have i0 := fun W => run_byt (t := 9) (s := left) (k := 0) (i := 0) rfl Try.underlying9 (by omega) W
              have hkb := byt_lt left 0
              obtain ⟨k, hkk⟩ : ∃ k, k = byt left 0 := ⟨_, rfl⟩
              have hbl : bl left = k :: (bl left).drop 1 := by rw [hkk]; exact bl_one (by omega)
              rw [← hkk] at i0 hkb
              have hst : piecesG (n - j) (bl left) (Ps.map bl) = if left.size < 1 + k then none else piecesG (n - (j + 1)) (bl (left.extract (1 + k) left.size)) ((Ps ++ [left.extract 1 (1 + k)]).map bl) := by
                rw [show n - j = (n - (j + 1)) + 1 by omega, hbl]
                simp only [piecesG]
                have hdl : ((bl left).drop 1).length = left.size - 1 := by rw [List.length_drop, bl_len]
                by_cases hc : left.size < 1 + k
                · rw [if_pos hc, if_pos (by omega)]
                · rw [if_neg hc, if_neg (by omega)]
                  rw [bl_cut, List.drop_drop, List.map_append]
                  simp only [List.map_cons, List.map_nil]
                  rw [bl_mid, show 1 + k - 1 = k by omega]
              have HST := Lib.hid (he.out.trans hst)
              clear hkk hbl hst he
              by_cases hc : left.size < 1 + k
              · have HR := Lib.hid (show splitG (bl p) = (([], []), 4) by rw [HS.out, HST.out, if_pos hc])
                have hz7 : decide ((left.size : Int) < 1 + (k : Int)) = true := by simp; omega
                clear hown hq
                go_wp2_with fail
                try rw [Exit.noGoto_ret]
                go_ret3
                exact ⟨[], .empty, none, 0, 4, rfl, own_nil, by rw [HR.out]; rfl, by simp, by simp, hbr⟩
              · have hz7 : decide ((left.size : Int) < 1 + (k : Int)) = false := by simp; omega
                have HE := Lib.hid (show piecesG n (bl (p.extract 1 p.size)) [] = piecesG (n - (j + 1)) (bl (left.extract (1 + k) left.size)) ((Ps ++ [left.extract 1 (1 + k)]).map bl) by rw [HST.out, if_neg hc])
                have hes2 := extract_size' left (1 + k)
                have hes3 : (left.extract 1 (1 + k)).size ≤ 1000000 := by rw [← bl_len, bl_mid, List.length_take]; omega
                have HQ := Lib.hid (show ∀ q ∈ Ps ++ [left.extract 1 (1 + k)], q.size ≤ 1000000 from fun q hqm => by
                  rcases List.mem_append.1 hqm with h | h
                  · exact hq.out q h
                  · rw [List.mem_singleton] at h; subst h; exact hes3)
                have hwr : IntKind.u8.wrap ((j : Int) + 1) = (j : Int) + 1 := by
                  simp only [IntKind.wrap, IntKind.signed, IntKind.bits]; simp; omega
                have hsz := hbr.size
                clear hq HST hes3
                go_wp2_with (at_builtin; refine wpList_app rfl _ _ 42 rfl w.heap.size stT rfl (own_below hown (bal (Below.refl _ _) _)) (strs [left.extract 1 (1 + k)]) rfl (sl_new _ rfl rfl) (by intro u hu; simp [strs] at hu; subst hu; rfl) (by omega) (Nat.le_trans hsz (bal (Below.refl _ _) _).size) ?_; intro A2 c2 w2 hown2 hg2 hat2)
                go_roundw
                case rel => exact ⟨j + 1, Ps ++ [left.extract 1 (1 + k)], left.extract (1 + k) left.size, A2, c2, by omega, rfl, rfl, by simp, by rw [hes2]; omega, by rw [show strs (Ps ++ [left.extract 1 (1 + k)]) = strs Ps ++ strs [left.extract 1 (1 + k)] by simp [strs]]; exact hown2, grown_below (bal hbr _) hg2 (own_below hown (bal (Below.refl _ _) _)), HE, HQ⟩
                case measure => simp [intOf]; omega
          · obtain rfl : j = n := by omega
            have HR := Lib.hid (show splitG (bl p) = ((Ps.map bl, bl left), 0) by rw [HS.out, he.out, Nat.sub_self]; rfl)
            have hz6 : decide ((j : Int) < (j : Int)) = false := by simp
            clear he
            go_wp2_with fail
            go_ret3
            subst hPl
            exact ⟨Ps, left, A, c, 0, rfl, hown, HR.out, by omega, ⟨hq.out, hls⟩, hbr⟩
end Go.Proofs.Ytoehkfinchnadaa
