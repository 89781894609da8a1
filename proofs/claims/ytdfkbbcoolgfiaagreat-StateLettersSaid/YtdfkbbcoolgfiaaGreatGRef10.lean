/- The reference's machine: how it begins. -/
import Derived.Test.YtdfkbbcoolgfiaaGreatMG2
import Derived.Deep.RegionLaw
namespace Go.Proofs.YtdfkbbcoolgfiaaGreat
open Go.RowKit Go.BigFrame

/-- The cells while the pieces are read. -/
def rcB (vp : Value) : List Value := rcv vp .empty (.slice none 0 0) (.slice none 0 0) (.slice none 0 0) startG (.slice none 0 0) 0
/-- What it begins with. -/
def BegP (w : World) (p : ByteArray) (e : Ending) (w' : World) : Prop :=
  e = .returned (.pointer (some ⟨w.heap.size, 0, none⟩)) ∧ Below w.heap.size w w' ∧ ∃ (Ps : List ByteArray) (left : ByteArray) (er : Int), splitG (bl p) = ((Ps.map bl, bl left), er) ∧ Ps.length ≤ 16 ∧ ((∀ q ∈ Ps, q.size ≤ 1000000) ∧ left.size ≤ 1000000) ∧
    if er = 0 then RM w' w.heap.size Ps left [(-1, 0)] startG 0 else RX w' w.heap.size er
theorem BegP.bad {w w' : World} {p : ByteArray} {er : Int} (hR : splitG (bl p) = (([], []), er)) (he : er ≠ 0) (hb : Below w.heap.size w w') (hx : RX w' w.heap.size er) : BegP w p (.returned (.pointer (some ⟨w.heap.size, 0, none⟩))) w' :=
  ⟨rfl, hb, [], .empty, er, hR, by simp, ⟨by simp, by simp⟩, by rw [if_neg he]; exact hx⟩
theorem RC.x {w : World} {g : Nat} {vp : Value} {er : Int} (h : RC w g (rcB vp)) : RX (w.setCell ⟨g, 12, none⟩ (.int .i64 er)) g er := by
  have h2 := h.set 12 (.int .i64 er) (by simp [rcB, rcv])
  exact ⟨h2.lt, h2.c 12 _ rfl⟩
theorem rcB_new (w : World) : RC (w.alloc (.cells #[.slice none 0 0, .string { data := #[] }, .slice none 0 0, .slice none 0 0, .slice none 0 0, .int .i64 0, .int .i64 0, .slice none 0 0, .int .i64 0, .bool false, .int .i64 0, .bool false, .int .i64 0] 210)) w.heap.size (rcB (.slice none 0 0)) := by
  refine ⟨by simp, fun i => frozen_of_row _ _ _ _ _ (heap_alloc_new w _), fun j v hv => ?_⟩
  rw [new_cell]
  rw [← hv]
  simp [rcB, rcv, startG]
  rfl
theorem beg_done {w wr : World} {Ps : List ByteArray} {left : ByteArray} {A : Option Addr} {c : Nat} (hRC : RC wr w.heap.size (rcB (.slice A Ps.length c))) (hown : wr.ownsRow (w.heap.size + 1) 9 1 (.slice A Ps.length c) Ps.length (strs Ps)) :
    RM (((((wr.setCell ⟨w.heap.size, 1, none⟩ (.string left)).setCell ⟨w.heap.size, 2, none⟩ (.slice (some ⟨wr.heap.size, 0, none⟩) 1 1)).setCell ⟨w.heap.size, 3, none⟩ (.slice (some ⟨wr.heap.size + 1, 0, none⟩) 1 1)).alloc (.cells #[.int .i64 (-1)] 3)).alloc (.cells #[.int .i64 0] 3))
      w.heap.size Ps left [(-1, 0)] startG 0 := by
  have hlt := hRC.lt
  obtain ⟨w3, hw3⟩ : ∃ w3 : World, w3 = ((wr.setCell ⟨w.heap.size, 1, none⟩ (.string left)).setCell ⟨w.heap.size, 2, none⟩ (.slice (some ⟨wr.heap.size, 0, none⟩) 1 1)).setCell ⟨w.heap.size, 3, none⟩ (.slice (some ⟨wr.heap.size + 1, 0, none⟩) 1 1) := ⟨_, rfl⟩
  have hs3 : w3.heap.size = wr.heap.size := by rw [hw3]; simp [World.setCell]
  have h1 : RC w3 w.heap.size (rcv (.slice A Ps.length c) left (.slice (some ⟨wr.heap.size, 0, none⟩) 1 1) (.slice (some ⟨wr.heap.size + 1, 0, none⟩) 1 1) (.slice none 0 0) startG (.slice none 0 0) 0) := by rw [hw3]; exact (((hRC.set 1 (.string left) (by show 1 < 13; omega)).set 2 (.slice (some ⟨wr.heap.size, 0, none⟩) 1 1) (by show 2 < 13; omega)).set 3 (.slice (some ⟨wr.heap.size + 1, 0, none⟩) 1 1) (by show 3 < 13; omega))
  have ho : w3.ownsRow (w.heap.size + 1) 9 1 (.slice A Ps.length c) Ps.length (strs Ps) := by rw [hw3]; exact own_g (own_g (own_g hown set_own (Nat.lt_succ_self _)) set_own (Nat.lt_succ_self _)) set_own (Nat.lt_succ_self _)
  rw [← hw3]
  clear hw3
  have hB : Below w3.heap.size w3 ((w3.alloc (.cells #[.int .i64 (-1)] 3)).alloc (.cells #[.int .i64 0] 3)) := bal (bal (Below.refl _ _) _) _
  have o1 : (w3.alloc (.cells #[.int .i64 (-1)] 3)).ownsRow (w.heap.size + 1) 3 1 (.slice (some ⟨wr.heap.size, 0, none⟩) 1 1) 1 (ints [-1]) := own_new (ints [-1]) hs3 rfl (by omega) (by omega)
  have o2 : ((w3.alloc (.cells #[.int .i64 (-1)] 3)).alloc (.cells #[.int .i64 0] 3)).ownsRow (w.heap.size + 1) 3 1 (.slice (some ⟨wr.heap.size + 1, 0, none⟩) 1 1) 1 (ints [0]) := own_new (ints [0]) (by simp [hs3]) rfl (by omega) (by omega)
  have hr : RR ((w3.alloc (.cells #[.int .i64 (-1)] 3)).alloc (.cells #[.int .i64 0] 3)) w.heap.size (fun b => if b = wr.heap.size then 1 else if b = wr.heap.size + 1 then 2 else 5) Ps [-1] [0] [] [] (.slice (some ⟨wr.heap.size, 0, none⟩) 1 1) (.slice (some ⟨wr.heap.size + 1, 0, none⟩) 1 1) (.slice none 0 0) A none := by
    refine ⟨(own_sl ho).below hB, own_below o1 (bal (Below.refl _ _) _), o2, own_nil, Sl.nil_, ?_, ?_, ?_, ?_, ?_⟩
    · intro k hk; have : wr.heap.size = k := Option.some.inj hk; simp [this]
    · intro k hk; have : wr.heap.size + 1 = k := Option.some.inj hk; simp [← this]
    · intro k hk; cases hk
    · intro h0; simp at h0
    · intro h0 b off e
      have h2 := sl_in (own_sl hown) h0 e
      have h3 := own_apart hown b off e
      refine ⟨by omega, ?_⟩
      rw [if_neg (by omega), if_neg (by omega)]
  exact ⟨_, A, c, some ⟨wr.heap.size, 0, none⟩, 1, some ⟨wr.heap.size + 1, 0, none⟩, 1, none, 0, none, 0, h1.below hB, hr, Nat.le_refl _⟩
set_option maxRecDepth 100000 in
set_option maxHeartbeats 2000000 in
theorem begin_any (p : ByteArray) (w : World) (hp : p.size ≤ 1000000) : Calls Tryz.prog 167 #[.string p] w (BegP w p) := by
  obtain ⟨w0, hw0⟩ : ∃ w0 : World, w0 = w.alloc (.cells #[.slice none 0 0, .string { data := #[] }, .slice none 0 0, .slice none 0 0, .slice none 0 0, .int .i64 0, .int .i64 0, .slice none 0 0, .int .i64 0, .bool false, .int .i64 0, .bool false, .int .i64 0] 210) := ⟨_, rfl⟩
  have hN : RC w0 w.heap.size (rcB (.slice none 0 0)) := by rw [hw0]; exact rcB_new w
  have hB0 : Below w.heap.size w w0 := by rw [hw0]; exact bal (Below.refl _ _) _
  by_cases h1 : 600 < p.size
  · have HR := Lib.hid (show splitG (bl p) = (([], []), 5) by unfold splitG; rw [if_pos (by rw [bl_len]; exact h1)])
    have hz1 : decide ((p.size : Int) > 600) = true := by simp; omega
    have hz2 : decide (600 < p.size) = true := by simp; omega
    go_enter Tryz.func167, Tryz.ntmps167
    go_wp2_with fail
    rw [← hw0]
    clear hw0
    refine (wrong_first _ _ 5 _ hN rfl).mono ?_; rintro e wz ⟨rfl, rfl⟩
    go_wp2_with fail
    try rw [Exit.noGoto_ret]
    go_ret
    exact BegP.bad HR.out (by omega) (bset hB0 (by simp) _) hN.x
  · have hz1 : decide ((p.size : Int) > 600) = false := by simp; omega
    have hz2 : decide (600 < p.size) = false := by simp; omega
    by_cases h0 : p.size = 0
    · have HR := Lib.hid (show splitG (bl p) = (([], []), 4) by unfold splitG; rw [bl_nil h0]; rfl)
      have hz3 : ((p.size : Int) == 0) = true := by simp [h0]
      go_enter Tryz.func167, Tryz.ntmps167
      go_wp2_with fail
      rw [← hw0]
      clear hw0
      refine (wrong_first _ _ 4 _ hN rfl).mono ?_; rintro e wz ⟨rfl, rfl⟩
      go_wp2_with fail
      try rw [Exit.noGoto_ret]
      go_ret
      exact BegP.bad HR.out (by omega) (bset hB0 (by simp) _) hN.x
    · have hz3 : ((p.size : Int) == 0) = false := by rw [beq_eq_false_iff_ne]; omega
      have hz3' : (p.size == 0) = false := by rw [beq_eq_false_iff_ne]; omega
      have i0 := fun W => run_byt (t := 9) (s := p) (k := 0) (i := 0) rfl Tryz.underlying9 (by omega) W
      have hb := byt_lt p 0
      obtain ⟨n, hnn⟩ : ∃ n, n = byt p 0 := ⟨_, rfl⟩
      have hbl : bl p = n :: (bl p).drop 1 := by rw [hnn]; exact bl_one (by omega)
      rw [← hnn] at i0 hb
      by_cases h16 : 16 < n
      · have HR := Lib.hid (show splitG (bl p) = (([], []), 3) by
          unfold splitG; rw [if_neg (by rw [bl_len]; omega), hbl]; simp only; rw [if_pos h16])
        have hz4 : decide ((n : Int) > 16) = true := by simp; omega
        have hz5 : decide (16 < (n : Int)) = true := by simp; omega
        have hz6 : decide (16 < n) = true := by simp; omega
        clear hnn hbl
        go_enter Tryz.func167, Tryz.ntmps167
        go_wp2_with fail
        rw [← hw0]
        clear hw0
        refine (wrong_first _ _ 3 _ hN rfl).mono ?_; rintro e wz ⟨rfl, rfl⟩
        go_wp2_with fail
        try rw [Exit.noGoto_ret]
        go_ret
        exact BegP.bad HR.out (by omega) (bset hB0 (by simp) _) hN.x
      · have hS : splitG (bl p) = match piecesG n (bl (p.extract 1 p.size)) [] with | none => (([], []), 4) | some r => (r, 0) := by
          rw [bl_cut]; unfold splitG; rw [if_neg (by rw [bl_len]; omega), hbl]; simp only; rw [if_neg h16, List.drop_succ_cons, List.drop_zero]; cases piecesG n ((bl p).drop 1) [] <;> rfl
        have HS := Lib.hid hS
        have hes := extract_size' p 1
        have hz4 : decide ((n : Int) > 16) = false := by simp; omega
        have hz5 : decide (16 < (n : Int)) = false := by simp; omega
        have hz6 : decide (16 < n) = false := by simp; omega
        clear hS hnn hbl
        go_enter Tryz.func167, Tryz.ntmps167
        go_wp2_with fail
        rw [← hw0]
        clear hw0
        go_loopw [0, 5] (fun s0 s5 wr => ∃ (j : Nat) (Ps : List ByteArray) (left : ByteArray) (A : Option Addr) (c : Nat), j ≤ n ∧ s0 = .string left ∧ s5 = .int .i64 (j : Int) ∧ left.size ≤ 1000000 ∧
          RC wr w.heap.size (rcB (.slice A j c)) ∧ wr.ownsRow (w.heap.size + 1) 9 1 (.slice A j c) j (strs Ps) ∧ Below w.heap.size w wr ∧ Hid (piecesG n (bl (p.extract 1 p.size)) [] = piecesG (n - j) (bl left) (Ps.map bl)) ∧ Hid (∀ q ∈ Ps, q.size ≤ 1000000)) (fun _ s5 _ => n - (intOf s5).toNat)
        case atStart => exact ⟨0, [], p.extract 1 p.size, none, 0, by omega, rfl, rfl, by rw [hes]; omega, hN, own_nil, hB0, Lib.hid rfl, Lib.hid (by simp)⟩
        case round =>
          obtain ⟨j, Ps, left, A, c, hj, rfl, rfl, hls, hRC, hown, hbr, he, hq⟩ := hrel
          have hPl : Ps.length = j := by have := hown.1; simp [strs] at this; omega
          have c0 := hRC.c 0 _ rfl
          have f0 := hRC.nf 0
          have hltr := hRC.lt
          have c12 := hRC.c 12 _ rfl
          clear i0 hN hB0
          by_cases hlt : j < n
          · have hz6 : decide ((j : Int) < (n : Int)) = true := by simp; omega
            by_cases hl0 : left.size = 0
            · have hz7 : ((left.size : Int) == 0) = true := by simp [hl0]
              have HR := Lib.hid (show splitG (bl p) = (([], []), 4) by rw [HS.out, he.out, bl_nil hl0, show n - j = (n - j - 1) + 1 by omega]; rfl)
              clear hown he hq
              go_wp2_with fail
              refine (wrong_first _ _ 4 _ hRC rfl).mono ?_; rintro e wz ⟨rfl, rfl⟩
              go_wp2_with fail
              try rw [Exit.noGoto_ret]
              go_ret
              exact BegP.bad HR.out (by omega) (bset hbr (by simp) _) hRC.x
            · have hz7 : ((left.size : Int) == 0) = false := by rw [beq_eq_false_iff_ne]; omega
              have hz7' : (left.size == 0) = false := by rw [beq_eq_false_iff_ne]; omega
              have i0 := fun W => run_byt (t := 9) (s := left) (k := 0) (i := 0) rfl Tryz.underlying9 (by omega) W
              have hkb := byt_lt left 0
              obtain ⟨k, hkk⟩ : ∃ k, k = byt left 0 := ⟨_, rfl⟩
              have hbl : bl left = k :: (bl left).drop 1 := by rw [hkk]; exact bl_one (by omega)
              rw [← hkk] at i0 hkb
              have hst : piecesG (n - j) (bl left) (Ps.map bl) = if left.size < 1 + k then none else piecesG (n - (j + 1)) (bl (left.extract (1 + k) left.size)) ((Ps ++ [left.extract 1 (1 + k)]).map bl) := by
                rw [show n - j = (n - (j + 1)) + 1 by omega, hbl]
                simp only [piecesG]
                have hdl : ((bl left).drop 1).length = left.size - 1 := by rw [List.length_drop, bl_len]
                by_cases hc : left.size < 1 + k
                · rw [if_pos hc, if_pos (by omega)]
                · rw [if_neg hc, if_neg (by omega)]
                  rw [bl_cut, List.drop_drop, List.map_append]
                  simp only [List.map_cons, List.map_nil]
                  rw [bl_mid, show 1 + k - 1 = k by omega]
              have HST := Lib.hid (he.out.trans hst)
              clear hkk hbl hst he
              by_cases hc : left.size < 1 + k
              · have HR := Lib.hid (show splitG (bl p) = (([], []), 4) by rw [HS.out, HST.out, if_pos hc])
                have hz8 : decide ((left.size : Int) < 1 + (k : Int)) = true := by simp; omega
                clear hown hq
                go_wp2_with fail
                refine (wrong_first _ _ 4 _ hRC rfl).mono ?_; rintro e wz ⟨rfl, rfl⟩
                go_wp2_with fail
                try rw [Exit.noGoto_ret]
                go_ret
                exact BegP.bad HR.out (by omega) (bset hbr (by simp) _) hRC.x
              · have hz8 : decide ((left.size : Int) < 1 + (k : Int)) = false := by simp; omega
                have HE := Lib.hid (show piecesG n (bl (p.extract 1 p.size)) [] = piecesG (n - (j + 1)) (bl (left.extract (1 + k) left.size)) ((Ps ++ [left.extract 1 (1 + k)]).map bl) by rw [HST.out, if_neg hc])
                have hes2 := extract_size' left (1 + k)
                have hes3 : (left.extract 1 (1 + k)).size ≤ 1000000 := by rw [← bl_len, bl_mid, List.length_take]; omega
                have HQ := Lib.hid (show ∀ q ∈ Ps ++ [left.extract 1 (1 + k)], q.size ≤ 1000000 from fun q hqm => by
                  rcases List.mem_append.1 hqm with h | h
                  · exact hq.out q h
                  · rw [List.mem_singleton] at h; subst h; exact hes3)
                clear hq HST hes3
                have q1 : (0 : Int) ≤ 1 + (k : Int) := by omega
                have q2 : 1 + (k : Int) ≤ (left.size : Int) := by omega
                have q3 : (1 : Int) ≤ 1 + (k : Int) := by omega
                have q4 : (1 + (k : Int)).toNat = 1 + k := by omega
                go_wp2_with fail
                have ho1 := fun (o : Obj) => own_below hown (bdrew (bal (Below.refl wr.heap.size wr) o))
                go_region_law (first
                    | (refine step_app (by rfl) _ _ 52 (by rfl) (w.heap.size + 1) stT (by rfl) (ho1 _) (strs [left.extract 1 (1 + k)]) (by rfl) ((sl_newN (w := wr) (t := 9) (s := 1) (n := 1) (strs [left.extract 1 (1 + k)]) rfl rfl).drew) (by intro u hu; simp [strs] at hu; subst hu; rfl) (by omega) (by simp; omega) ?_; intro A2 c2 w2 hown2 hg2 hat2; have hRC2 := RC.off (hRC.below (bdrew (bal (Below.refl wr.heap.size wr) _))) hg2 (fun k hk => by have := (hown.lt k hk).1; omega); have d0 := hRC2.c 0 _ rfl; have e0 := hRC2.nf 0; have hB2 := hbr.trans ((bdrew (bal (Below.refl wr.heap.size wr) (.cells #[.string (left.extract 1 (1 + k))] 9))).mono (Nat.le_of_lt hltr)))
                    | fail)
                all_goals
                  have HG := hB2.grown hg2 hB2.size (fun k hk => by have := (hown.lt k hk).1; omega)
                  have hown3 := own_g hown2 (set_own (w := w2) (g := w.heap.size) (i := 0) (u := .slice A2 (j + 1) c2)) (Nat.lt_succ_self _)
                  go_wp2_with fail
                  go_roundw
                  case rel => exact ⟨j + 1, Ps ++ [left.extract 1 (1 + k)], left.extract (1 + k) left.size, A2, c2, by omega, rfl, by simp, by rw [hes2]; omega, hRC2.set 0 _ (by show 0 < 13; omega), by rw [show strs (Ps ++ [left.extract 1 (1 + k)]) = strs Ps ++ strs [left.extract 1 (1 + k)] by simp [strs]]; exact hown3, bset HG (by simp) _, HE, HQ⟩
                  case measure => simp [intOf]; omega
          · obtain rfl : j = n := by omega
            have HR := Lib.hid (show splitG (bl p) = ((Ps.map bl, bl left), 0) by rw [HS.out, he.out, Nat.sub_self]; rfl)
            have hz6 : decide ((j : Int) < (j : Int)) = false := by simp
            have c1 := hRC.c 1 _ rfl
            have c2 := hRC.c 2 _ rfl
            have c3 := hRC.c 3 _ rfl
            have f1 := hRC.nf 1
            have f2 := hRC.nf 2
            have f3 := hRC.nf 3
            clear he
            go_wp2_with fail
            go_ret
            subst hPl
            refine ⟨rfl, ?_, Ps, left, 0, HR.out, by omega, ⟨hq.out, hls⟩, ?_⟩
            · exact bal (bal (bset (bset (bset hbr (Nat.le_refl _) _) (Nat.le_refl _) _) (Nat.le_refl _) _) _) _
            · rw [if_pos rfl]; exact beg_done hRC hown
end Go.Proofs.YtdfkbbcoolgfiaaGreat
