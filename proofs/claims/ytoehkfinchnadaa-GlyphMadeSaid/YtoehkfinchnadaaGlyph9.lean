/- Letters' programs: a piece is run. -/
import Derived.Test.YtoehkfinchnadaaGlyph8
namespace Go.Proofs.Ytoehkfinchnadaa
open Go.RowKit Go.BigFrame

theorem MAt.gblk {w w' : World} {g : Nat} {P : List ByteArray} {M : GM} {Ap Aw Al : Option Addr} {cp cw cl n : Nat} (h : MAt w g P M Ap cp Aw cw Al cl) (hn : M.wait.length = n) (hg : w.grownBy w' (Value.slice Aw n cw).ownBlock) :
    (∀ i, w'.cell? ⟨g, i, none⟩ = w.cell? ⟨g, i, none⟩) ∧ ∀ i, w'.frozen? ⟨g, i, none⟩ = false := by
  subst hn
  have hbg := hg.block g h.lt fun e => by have := (h.hw.lt g e.symm).1; omega
  exact ⟨fun i => World.cell?_of_block (a := ⟨g, i, none⟩) hbg, fun i => (World.frozen?_of_block (a := ⟨g, i, none⟩) hbg).trans (h.nf i)⟩
theorem MAt.gbelow {w0 w w' : World} {g : Nat} {P : List ByteArray} {M : GM} {Ap Aw Al : Option Addr} {cp cw cl n : Nat} (h : MAt w g P M Ap cp Aw cw Al cl) (hn : M.wait.length = n) (hg : w.grownBy w' (Value.slice Aw n cw).ownBlock) (hb : Below g w0 w) (u : Value) :
    Below g w0 (w'.setCell ⟨g, 1, none⟩ u) := by
  subst hn
  exact (hb.grown hg (Nat.le_of_lt h.lt) (fun k hk => Nat.le_of_succ_le (h.hw.lt k hk).1)).setCell (p := ⟨g, 1, none⟩) (Nat.le_refl g) u
def strOf : Value → ByteArray | .string s => s | _ => .empty
theorem ciT : SlT Try.prog 22 3 1 8 := slT_of Try.underlying22 (by kernel_rfl) (by omega) (by omega)
theorem extract_size' (s : ByteArray) (k : Nat) : (s.extract k s.size).size = s.size - k := by
  rw [← bl_len, bl_cut, List.length_drop, bl_len]
theorem bl_nil {s : ByteArray} (h : s.size = 0) : bl s = [] := List.eq_nil_of_length_eq_zero (by rw [bl_len]; exact h)

theorem draw_r (c : Nat) (g : Nat) (P : List ByteArray) (M : GM) (w : World) (hc : c < 32) (h : MS w g P M) :
    Calls Try.prog 23 #[.pointer (some ⟨g, 0, none⟩), .int .u8 (c : Int)] w (RPost g P w (drawG c M)) := by
  have hlt : g < w.heap.size := by obtain ⟨_, _, _, _, _, _, _, hM⟩ := h; exact hM.lt
  refine (draw_any c g P M w hc h).mono ?_; rintro e w' ⟨z, rfl, hg, hr⟩
  refine ⟨z, rfl, g2b' hg hlt, ?_⟩
  cases hd : drawG c M with
  | bad er => rw [hd] at hr; exact ⟨hr.1, hr.2.1⟩
  | ok M2 => rw [hd] at hr; exact hr
set_option maxRecDepth 100000 in
set_option maxHeartbeats 4000000 in
theorem run_level (g : Nat) (P : List ByteArray) (deep : Nat) (deeper : Nat → GM → GR) (M : GM) (w : World) (hP : P.length ≤ 16) (hd : deep ≤ 4)
    (hmost : deep = 4 → ∀ k M, deeper k M = .bad 5)
    (hdeep : deep < 4 → ∀ (k : Nat) (hk : k < P.length) (M : GM) (w : World), MS w g P M → Calls Try.prog 13 #[.pointer (some ⟨g, 0, none⟩), .string P[k], .int .i64 ((deep : Int) + 1)] w (RPost g P w (deeper k M)))
    (s : ByteArray) (hsz : s.size ≤ 1000000) (h : MS w g P M) :
    Calls Try.prog 13 #[.pointer (some ⟨g, 0, none⟩), .string s, .int .i64 (deep : Int)] w (RPost g P w (runS P.length deeper (deep == 0) (bl s) M)) := by
  have HC := Lib.hid (fun (M : GM) (w : World) (h : MS w g P M) => call_any g P deep deeper M w hP hd hmost hdeep h)
  clear hmost hdeep
  obtain ⟨R, hR⟩ : ∃ R, R = runS P.length deeper (deep == 0) (bl s) M := ⟨_, rfl⟩
  rw [← hR]
  go_enter Try.func13, Try.ntmps13
  go_wp2
  go_step3
  go_wp2
  go_step3
  go_wp2
  go_loopw [1] (fun s1 wr => ∃ (t : ByteArray) (M' : GM), s1 = .string t ∧ t.size ≤ 1000000 ∧ MS wr g P M' ∧ Hid (Below g w wr) ∧ Hid (R = runS P.length deeper (deep == 0) (bl t) M')) (fun s1 _ => (strOf s1).size)
  case atStart => exact ⟨s, M, rfl, hsz, h, Lib.hid (Below.refl _ _), Lib.hid hR⟩
  case round =>
    obtain ⟨t, M', rfl, ht, hMS, HB, he⟩ := hrel
    by_cases h0 : t.size = 0
    · have HR := Lib.hid (show R = .bad 4 by rw [he.out, bl_nil h0, runS.eq_def])
      have hz1 : decide ((t.size : Int) > 0) = false := by rw [h0]; rfl
      have hz2 : decide (0 < t.size) = false := by rw [h0]; rfl
      have hz3 : decide (0 < (t.size : Int)) = false := by rw [h0]; rfl
      clear he hMS h
      go_wp2_with fail
      try rw [Exit.noGoto_ret]
      go_ret
      exact ⟨4, rfl, HB.out, by rw [HR.out]; exact ⟨rfl, by omega⟩⟩
    · have hz1 : decide ((t.size : Int) > 0) = true := by simp; omega
      have hz2 : decide (0 < t.size) = true := by simp; omega
      have hz3 : decide (0 < (t.size : Int)) = true := by simp; omega
      have i0 := fun W => run_byt (t := 9) (s := t) (k := 0) (i := 0) rfl Try.underlying9 (by omega) W
      have hb := byt_lt t 0
      obtain ⟨b, hbb⟩ : ∃ b, b = byt t 0 := ⟨_, rfl⟩
      have hbl : bl t = b :: (bl t).drop 1 := by rw [hbb]; exact bl_one (by omega)
      rw [← hbb] at i0 hb
      clear hbb h
      have HMS := Lib.hid hMS
      obtain ⟨hok, Ap, cp, Aw, cw, Al, cl, hM⟩ := hMS
      have HOK := Lib.hid hok
      have HM := Lib.hid hM
      by_cases h32 : 32 ≤ b
      · have hz4 : decide ((b : Int) ≥ 32) = true := by simp; omega
        have hz5 : decide (32 ≤ (b : Int)) = true := by simp; omega
        have hz6 : decide (32 ≤ b) = true := by simp; omega
        have hrs := runS_num (np := P.length) (deeper := deeper) (top := deep == 0) (b := b) (s := (bl t).drop 1) M' h32
        rw [← hbl] at hrs
        have hnb := fun v n => numG_bd (s := bl t) (v := v) (n := n) (bl_lt t)
        have hnl := fun v n => numG_len (s := bl t) (v := v) (n := n)
        rw [bl_len] at hnl
        have HN := Lib.hid (fun W => number_any t W (by omega) ht)
        cases hn : numG (bl t) with
        | none =>
          have HR := Lib.hid (show R = .bad 4 by rw [he.out, hrs, hn])
          have HNN := Lib.hid hn
          have HB' := Lib.hid (fun (W : World) (hb : Below wr.heap.size wr W) => HB.out.trans (hb.mono (Nat.le_of_lt hM.lt)))
          clear he hrs hnb hnl hn hok hM hbl HB
          go_wp2_with fail
          refine (HN.out _).mono ?_; rintro e w1 ⟨rfl, hb1⟩
          rw [HNN.out]
          simp only [numR]
          have HB := Lib.hid (HB'.out _ hb1)
          go_wp2_with fail
          try rw [Exit.noGoto_ret]
          go_ret
          exact ⟨4, rfl, HB.out, by rw [HR.out]; exact ⟨rfl, by omega⟩⟩
        | some vn =>
          obtain ⟨v, n⟩ := vn
          have hvb := hnb v n hn
          obtain ⟨hn1, hn2⟩ := hnl v n hn
          have HNN := Lib.hid hn
          rw [hn] at hrs
          simp only at hrs
          obtain ⟨m, hm⟩ : ∃ m, M'.wait.length = m := ⟨_, rfl⟩
          have hm24 := hok.w24
          rw [hm] at hm24
          have HB' := Lib.hid (fun (W : World) (hb : Below wr.heap.size wr W) => HB.out.trans (hb.mono (Nat.le_of_lt hM.lt)))
          have HM1 := Lib.hid (fun (W : World) (hb : Below wr.heap.size wr W) => hM.below hb)
          by_cases h24 : m = 24
          · have HR := Lib.hid (show R = .bad 8 by rw [he.out, hrs]; unfold pushG; rw [if_pos (hm.trans h24)])
            have hz7 : ((m : Int) == 24) = true := by simp [h24]
            clear he hrs hnb hnl hn hok hM hbl HB
            go_wp2_with fail
            refine (HN.out _).mono ?_; rintro e w1 ⟨rfl, hb1⟩
            rw [HNN.out]
            simp only [numR]
            have HB := Lib.hid (HB'.out _ hb1)
            have hM1 := HM1.out _ hb1
            have c1 := hM1.c1
            rw [hm] at c1
            clear hM1 hb1
            go_wp2_with fail
            try rw [Exit.noGoto_ret]
            go_ret
            exact ⟨8, rfl, HB.out, by rw [HR.out]; exact ⟨rfl, by omega⟩⟩
          · have HR := Lib.hid (show R = runS P.length deeper (deep == 0) (bl (t.extract n t.size)) { M' with wait := M'.wait ++ [v] } by rw [he.out, hrs, bl_cut]; unfold pushG; rw [if_neg (by omega)])
            have hz7 : ((m : Int) == 24) = false := by simp; omega
            have HOK2 := Lib.hid (hok.push (by omega) hvb)
            have hes := extract_size' t n
            clear he hrs hnb hnl hn hok hM hbl HB
            go_wp2_with fail
            refine (HN.out _).mono ?_; rintro e w1 ⟨rfl, hb1⟩
            rw [HNN.out]
            simp only [numR]
            have hBB := HB'.out _ hb1
            have hM1 := HM1.out _ hb1
            have c1 := hM1.c1
            have nf1 := hM1.nf 1
            have hlt1 := hM1.lt
            have hown1 := hM1.hw
            rw [hm] at c1 hown1
            clear hb1
            go_wp2_with (at_builtin; refine wpList_app rfl _ _ 22 rfl (g + 1) ciT rfl (own_below hown1 (bal (Below.refl _ _) _)) (ints [v]) rfl (sl_new _ rfl rfl) (oneCell_ints [v]) (by omega) (Nat.le_trans hlt1 (bal (Below.refl _ _) _).size) ?_; intro A2 c2 w2 hown2 hg2 hat2; have hMa := hM1.below (bal (Below.refl _ _) (.cells #[.int .i64 v] 3)); obtain ⟨cg, fg⟩ := hMa.gblk hm hg2; have d1 := (cg 1).trans hMa.c1; have f1 := fg 1; rw [hm] at d1; have HMA := Lib.hid hMa; clear hMa cg fg)
            go_roundw
            case rel => exact ⟨_, _, rfl, by rw [hes]; omega, ⟨HOK2.out, _, _, _, _, _, _, HMA.out.push hm hg2 hown2 hat2⟩, Lib.hid (HMA.out.gbelow hm hg2 (hBB.alloc (Nat.le_of_lt hlt1) _) _), HR⟩
            case measure => simp only [strOf]; rw [hes]; omega
      · have hz4 : decide ((b : Int) ≥ 32) = false := by simp; omega
        have hz5 : decide (32 ≤ (b : Int)) = false := by simp; omega
        have hz6 : decide (32 ≤ b) = false := by simp; omega
        have hrs := runS_op (np := P.length) (deeper := deeper) (top := deep == 0) (b := b) (s := (bl t).drop 1) M' h32
        rw [← hbl, ← bl_cut t 1] at hrs
        have hes := extract_size' t 1
        have c6 := hM.c6
        have nf6 := hM.nf 6
        have hlt := hM.lt
        obtain ⟨k, hk⟩ : ∃ k, k = M'.ops := ⟨_, rfl⟩
        have hko := hok.ops
        rw [← hk] at c6 hko hrs
        have HBS := Lib.hid (HB.out.setCell (p := ⟨g, 6, none⟩) (Nat.le_refl g) (.int .i64 ((k : Int) + 1)))
        by_cases hov : k = 1000
        · have HR := Lib.hid (show R = .bad 5 by rw [he.out, hrs, if_pos (by omega)])
          subst hov
          clear he hrs hok hM hbl HB HC HMS HOK HM hk
          go_wp2_with fail
          try rw [Exit.noGoto_ret]
          go_ret
          exact ⟨5, rfl, HBS.out, by rw [HR.out]; exact ⟨rfl, by omega⟩⟩
        · have hM1 := hM.setOps (x := (k : Int) + 1) (k := k + 1) (by omega)
          have hMS1 : MS (wr.setCell ⟨g, 6, none⟩ (.int .i64 ((k : Int) + 1))) g P { M' with ops := k + 1 } := ⟨⟨hok.w24, hok.wv, hok.x, hok.y, hok.may, hok.wide, by simp only; omega⟩, _, _, _, _, _, _, hM1⟩
          have HMS1 := Lib.hid hMS1
          rw [if_neg (by omega)] at hrs
          have hz7 : decide ((k : Int) + 1 > 1000) = false := by simp; omega
          have hz8 : decide (1000 < (k : Int) + 1) = false := by simp; omega
          clear hok hM hbl HB HMS HOK HM hM1 hMS1 hk
          by_cases h8 : b = 8
          · subst h8
            rw [if_pos rfl] at hrs
            have HE := Lib.hid (he.out.trans hrs)
            clear he hrs
            go_wp2_with fail
            refine (HC.out _ _ HMS1.out).mono ?_; rintro e w2 ⟨z, rfl, hb2, hr2⟩
            have HB3 := Lib.hid (HBS.out.trans hb2)
            cases hr : callG P.length deeper { M' with ops := k + 1 } with
            | bad er =>
              rw [hr] at hr2
              obtain ⟨rfl, hz⟩ := hr2
              have hzz : (z != 0) = true := by simp [hz]
              have HR := Lib.hid (show R = .bad z by rw [HE.out, hr]; rfl)
              clear hr hb2
              go_wp2_with fail
              try rw [Exit.noGoto_ret]
              go_ret
              exact ⟨z, rfl, HB3.out, by rw [HR.out]; exact ⟨rfl, hz⟩⟩
            | ok M2 =>
              rw [hr] at hr2
              obtain ⟨rfl, hM2⟩ := hr2
              have HM2 := Lib.hid hM2
              obtain ⟨_, _, _, _, _, _, _, hMM⟩ := hM2
              have c8 := hMM.c8
              have hlt2 := hMM.lt
              rcases Bool.eq_false_or_eq_true M2.over with ho | ho
              · rw [ho] at c8
                have HR := Lib.hid (show R = .ok M2 by rw [HE.out, hr]; unfold thenG; simp only; rw [if_pos ho])
                clear hr hb2 hMM ho
                go_wp2_with fail
                try rw [Exit.noGoto_ret]
                go_ret
                exact ⟨0, rfl, HB3.out, by rw [HR.out]; exact ⟨rfl, HM2.out⟩⟩
              · rw [ho] at c8
                have HR := Lib.hid (show R = runS P.length deeper (deep == 0) (bl (t.extract 1 t.size)) M2 by rw [HE.out, hr]; unfold thenG; simp only; rw [if_neg (by rw [ho]; simp)])
                clear hr hb2 hMM ho
                go_wp2_with fail
                go_roundw
                case rel => exact ⟨_, _, rfl, by rw [hes]; omega, HM2.out, HB3, HR⟩
                case measure => simp only [strOf]; rw [hes]; omega
          · rw [if_neg h8] at hrs
            have hz9 : ((b : Int) == 8) = false := by simp; omega
            by_cases h9 : b = 9
            · subst h9
              rw [if_pos rfl] at hrs
              by_cases hd0 : deep = 0
              · have HR := Lib.hid (show R = .bad 3 by rw [he.out, hrs, hd0]; rfl)
                subst hd0
                clear he hrs HC
                go_wp2_with fail
                try rw [Exit.noGoto_ret]
                go_ret
                exact ⟨3, rfl, HBS.out, by rw [HR.out]; exact ⟨rfl, by omega⟩⟩
              · have hdb : (deep == 0) = false := by simp; omega
                have hdc : ((deep : Int) == 0) = false := by simp; omega
                have HR := Lib.hid (show R = .ok { M' with ops := k + 1 } by rw [he.out, hrs, hdb]; rfl)
                clear he hrs HC
                go_wp2_with fail
                try rw [Exit.noGoto_ret]
                go_ret
                exact ⟨0, rfl, HBS.out, by rw [HR.out]; exact ⟨rfl, HMS1.out⟩⟩
            · rw [if_neg h9] at hrs
              have hz10 : ((b : Int) == 9) = false := by simp; omega
              have HE := Lib.hid (he.out.trans hrs)
              have HDW := Lib.hid (fun W h => draw_r b g P { M' with ops := k + 1 } W (by omega) h)
              clear he hrs HC
              go_wp2_with fail
              refine (HDW.out _ HMS1.out).mono ?_; rintro e w2 ⟨z, rfl, hb2, hr2⟩
              have HB3 := Lib.hid (HBS.out.trans hb2)
              cases hr : drawG b { M' with ops := k + 1 } with
              | bad er =>
                rw [hr] at hr2
                obtain ⟨rfl, hz⟩ := hr2
                have hzz : (z != 0) = true := by simp [hz]
                have HR := Lib.hid (show R = .bad z by rw [HE.out, hr]; rfl)
                clear hr hb2
                go_wp2_with fail
                try rw [Exit.noGoto_ret]
                go_ret
                exact ⟨z, rfl, HB3.out, by rw [HR.out]; exact ⟨rfl, hz⟩⟩
              | ok M2 =>
                rw [hr] at hr2
                obtain ⟨rfl, hM2⟩ := hr2
                have HM2 := Lib.hid hM2
                obtain ⟨_, _, _, _, _, _, _, hMM⟩ := hM2
                have c8 := hMM.c8
                have hlt2 := hMM.lt
                rcases Bool.eq_false_or_eq_true M2.over with ho | ho
                · rw [ho] at c8
                  have HR := Lib.hid (show R = .ok M2 by rw [HE.out, hr]; unfold thenG; simp only; rw [if_pos ho])
                  clear hr hb2 hMM ho
                  go_wp2_with fail
                  try rw [Exit.noGoto_ret]
                  go_ret
                  exact ⟨0, rfl, HB3.out, by rw [HR.out]; exact ⟨rfl, HM2.out⟩⟩
                · rw [ho] at c8
                  have HR := Lib.hid (show R = runS P.length deeper (deep == 0) (bl (t.extract 1 t.size)) M2 by rw [HE.out, hr]; unfold thenG; simp only; rw [if_neg (by rw [ho]; simp)])
                  clear hr hb2 hMM ho
                  go_wp2_with fail
                  go_roundw
                  case rel => exact ⟨_, _, rfl, by rw [hes]; omega, HM2.out, HB3, HR⟩
                  case measure => simp only [strOf]; rw [hes]; omega
end Go.Proofs.Ytoehkfinchnadaa
