/- A font by numbers: what Made answers. -/
import Derived.Test.YtaphmonpdnbiiaaGreatFontMd
namespace Go.Proofs.YtaphmonpdnbiiaaGreat
open Go.RowKit Go.BigFrame

theorem own_far {w w' : World} {base : Nat} {e : TypeId} {s n : Nat} {v : Value} {xs : List Value} {r : Option Nat} (h : w.ownsRow base e s v n xs) (hg : w.grownBy w' r) (hr : ∀ k j, v.ownBlock = some k → r = some j → k ≠ j) : w'.ownsRow base e s v n xs :=
  h.kept hg (by
    cases hv : v.ownBlock with
    | none => exact .inl rfl
    | some k => refine .inr ?_; intro e; exact hr k k hv e.symm rfl)
theorem mayFrom_pieceM : ∀ (l : List Sg) (a : Int), mayFrom a l = true → ∀ s ∈ l, s.kind ≠ 0
  | [], _, _, s, hs => by simp at hs
  | t :: l, a, h, s, hs => by
    simp only [mayFrom, Bool.and_eq_true] at h
    rcases List.mem_cons.1 hs with rfl | hs
    · rcases (rightB_iff.1 h.1).2 with ⟨h1, _⟩ | ⟨h1, _⟩
      · omega
      · have h2 := (rightB_iff.1 h.1).1
        intro h0
        simp [pieceB, h0] at h2
    · exact mayFrom_pieceM l _ h.2 s hs
def LsOK (ls : List Le) (i : Nat) : Prop := ls.length = i ∧ ∀ j x, ls[j]? = some x → LeOK j x
theorem sl_apart {w : World} {s n b g : Nat} {xs : List Value} (h : Sl w s (some ⟨b, 0, none⟩) n xs) (hb : b ≠ g) (vs : List Value) : Sl (w.setCells g 0 vs) s (some ⟨b, 0, none⟩) n xs :=
  ⟨h.1, fun hn => by
    obtain ⟨b', off, e, hlt, hc⟩ := h.2 hn
    simp only [Option.some.injEq, Addr.mk.injEq, and_true] at e
    obtain ⟨rfl, rfl⟩ := e
    refine ⟨b, 0, rfl, by rw [setCells_size]; exact hlt, fun j u hu => ?_⟩
    rw [World.cell?_setCells_out g vs 0 w _ (fun e _ => absurd e hb)]
    exact hc j u hu⟩
theorem one_lec (x : Le) : ∀ u ∈ lec x, u.oneCell' = true := by intro u hu; simp only [lec, List.mem_cons, List.not_mem_nil, or_false] at hu; rcases hu with rfl | rfl <;> rfl
theorem one_prc (x : Pr) : ∀ u ∈ prc x, u.oneCell' = true := by intro u hu; simp only [prc, List.mem_cons, List.not_mem_nil, or_false] at hu; rcases hu with rfl | rfl | rfl <;> rfl
theorem lecs_app (l m : List Le) : lecs (l ++ m) = lecs l ++ lecs m := by simp [lecs]
theorem lecs_one (x : Le) : lecs [x] = lec x := by simp [lecs]
theorem prcs_app (l m : List Pr) : prcs (l ++ m) = prcs l ++ prcs m := by simp [prcs]
theorem prcs_one (x : Pr) : prcs [x] = prc x := by simp [prcs]
theorem lsOK_snoc {ls : List Le} {i : Nat} {x : Le} (h : LsOK ls i) (hx : LeOK i x) : LsOK (ls ++ [x]) (i + 1) := by
  refine ⟨by rw [List.length_append, h.1]; rfl, fun j y hy => ?_⟩
  by_cases hj : j < ls.length
  · rw [List.getElem?_append_left hj] at hy; exact h.2 j y hy
  · rw [List.getElem?_append_right (by omega)] at hy
    obtain ⟨hl, e⟩ := List.getElem?_eq_some_iff.1 hy
    simp only [List.length_cons, List.length_nil] at hl
    have hj2 : j = i := by have := h.1; omega
    subst hj2
    have h0 : j - ls.length = 0 := by omega
    simp only [h0, List.getElem_cons_zero] at e
    subst e; exact hx
set_option maxRecDepth 100000 in
set_option maxHeartbeats 4000000 in
theorem Made41_any (A : Option Addr) (n c : Nat) (zs : List Int) (w : World) (hnc : n ≤ c) (hcm : c ≤ 9223372036854775807) (h : Sl w 1 A n (ints zs)) : Calls Tryz.prog 6 #[.slice A n c] w fun e w' =>
    ∃ F C, e = .returned (.agg C.toArray) ∧ FoAt w' F C ∧ MadeF F ∧ Below w.heap.size w w' := by
  obtain ⟨C0, hC0⟩ : ∃ C0, C0 = foC zeroM (.slice (some ⟨w.heap.size + 1 + 1, 0, none⟩) 5 5) (.slice none 0 0) (.slice none 0 0) := ⟨_, rfl⟩
  obtain ⟨w0, hw0⟩ : ∃ w0 : World, w0 = (((w.alloc (.cells foZ.toArray 30)).alloc (.cells #[.slice A n c] 65)).alloc (.cells (strs namesM).toArray 9)).alloc (.cells C0.toArray 30) := ⟨_, rfl⟩
  have hB0 : Below w.heap.size w w0 := by rw [hw0]; exact bal (bal (bal (bal (Below.refl _ _) _) _) _) _
  have hnm : Sl w0 1 (some ⟨w.heap.size + 1 + 1, 0, none⟩) 5 (strs namesM) := by
    rw [hw0]; exact (sl_new (w := (w.alloc _).alloc _) (strs namesM) (by simp) rfl).alloc _
  have hsz : w0.heap.size = w.heap.size + 4 := by rw [hw0]; simp
  have hW : MW w0 (w.heap.size + 1) (w.heap.size + 1 + 1 + 1) w.heap.size C0 w0 := by
    refine ⟨⟨by omega, by omega, by omega⟩, ?_, ?_, ?_, rfl, rfl, rfl, Nat.le_refl _, fun _ _ _ _ => rfl⟩
    · have b1 : BC w0 (w.heap.size + 1) [.slice A n c] := by
        rw [hw0]
        exact ((BC.new (w := w.alloc _) [.slice A n c] 65 (by simp)).below (bal (Below.refl _ _) _)).below (bal (Below.refl _ _) _)
      refine ⟨A, n, c, b1.c 0 _ rfl, b1.nf 0, hnc, hcm, b1.lt, fun h0 => ?_⟩
      obtain ⟨b, off, rfl, hlt, hc⟩ := h.2 h0
      refine ⟨b, off, rfl, by omega, fun j hj => ?_⟩
      have hzl : zs.length = n := by have := h.1; simp [ints] at this; omega
      refine ⟨zs[j], ?_⟩
      rw [later_cell hB0 hlt]
      exact hc j _ (by simp [ints])
    · rw [hw0]; exact BC.new (w := ((w.alloc _).alloc _).alloc _) C0 30 (by simp)
    · rw [hw0]
      exact (((BC.new (w := w) foZ 30 rfl).below (bal (Below.refl _ _) _)).below (bal (Below.refl _ _) _)).below (bal (Below.refl _ _) _)
  have hc1 : C0.toArray = #[.int .i64 0, .int .i64 0, .int .i64 0, .int .i64 0, .int .i64 0, .int .i64 0, .slice (some ⟨w.heap.size + 1 + 1, 0, none⟩) 5 5, .slice none 0 0, .slice none 0 0] := by rw [hC0]; rfl
  have hc2 : foZ.toArray = #[.int .i64 0, .int .i64 0, .int .i64 0, .int .i64 0, .int .i64 0, .int .i64 0, .slice none 0 0, .slice none 0 0, .slice none 0 0] := rfl
  have hc3 : (strs namesM).toArray = #[.string { data := #[97] }, .string { data := #[98] }, .string { data := #[99] }, .string { data := #[] }, .string { data := #[100] }] := rfl
  rw [hc1, hc2, hc3] at hw0
  have HS := Lib.hid hsz
  clear hc1 hc2 hc3 h hnc hcm hsz
  go_enter Tryz.func6, Tryz.ntmps6
  go_upto_region 3 with (fail)
  rw [← hw0]
  clear hw0
  obtain ⟨gf, hgf⟩ : ∃ g, g = w.heap.size + 1 + 1 + 1 := ⟨_, rfl⟩
  rw [← hgf] at hW ⊢
  obtain ⟨gN, hgN⟩ : ∃ g, g = w.heap.size + 1 + 1 := ⟨_, rfl⟩
  rw [← hgN] at hnm hC0 ⊢
  obtain ⟨gL, hgL⟩ : ∃ g, g = w.heap.size + 1 := ⟨_, rfl⟩
  rw [← hgL] at hW ⊢
  have hne : gN ≠ gL ∧ gN ≠ gf ∧ gN < w0.heap.size ∧ gN ≠ w.heap.size := by rw [HS.out]; omega
  have HNE := Lib.hid hne
  clear hgf hgN hgL hne
  have HNM := Lib.hid fun W m L K (h : MW w0 gL gf w.heap.size (foC m (.slice (some ⟨gN, 0, none⟩) 5 5) L K) W) => (show Sl W 1 (some ⟨gN, 0, none⟩) 5 (strs namesM) from
    ⟨hnm.1, fun h0 => by
      obtain ⟨b, off, e, hlt, hc⟩ := hnm.2 h0
      refine ⟨b, off, e, Nat.lt_of_lt_of_le hlt h.sz, fun j u hu => ?_⟩
      simp only [Option.some.injEq, Addr.mk.injEq, and_true] at e
      obtain ⟨rfl, rfl⟩ := e
      exact (World.cell?_of_block (a := ⟨gN, 0 + j, none⟩) (h.gr gN HNE.out.2.2.1 HNE.out.1 HNE.out.2.1)).trans (hc j u hu)⟩)
  rw [hC0] at hW
  clear hC0 hnm
  go_wp2_with fail
  refine (Next_any gL 3 _ (by omega) hW.ln).mono ?_; rintro e wn ⟨⟨v, rfl, hv1, hv2⟩, hln, hgn⟩
  replace hW := hW.next hln hgn
  clear hln hgn
  obtain ⟨k, hk⟩ : ∃ k, k = 1 + v := ⟨_, rfl⟩
  have hw1 : IntKind.i64.wrap (1 + v) = k := by rw [hk]; exact IntWalk.i64_in _ (by omega)
  have hk1 : 1 ≤ k ∧ k ≤ 3 := by omega
  clear hk hv1 hv2
  have HWh := Lib.hid fun W => Whole_any k 0 0 k 0 0 W (by omega)
  simp only [Int.zero_mul] at HWh
  go_wp2_with fail
  refine (HWh.out _).mono ?_; rintro e w4 ⟨rfl, b4⟩
  replace hW := hW.below b4
  have hbf := hW.bf
  obtain ⟨w5, hw5⟩ : ∃ w5, w5 = w4.setCells gf 0 (mtC (scaleM k)) := ⟨_, rfl⟩
  have HW5 := Lib.hid hw5
  replace hW := hW.mat (scaleM k)
  rw [← hw5] at hW
  clear hw5 b4 HWh hw1
  have hsc : mtv ⟨k * 65536, 0, 0, k * 65536, 0, 0⟩ = .agg (mtC (scaleM k)).toArray := rfl
  rw [hsc]
  clear hsc
  go_wp2_with (first
    | (refine wpList_store_foM rfl _ _ _ rfl gf rfl (scaleM k) _ _ _ _ rfl matT2 hbf ?_; rw [← HW5.out])
    | fail)
  clear hbf HW5
  go_loopw [6] (fun i wr => ∃ (ki : Nat) (A2 : Option Addr) (c2 : Nat) (ls : List Le), ki ≤ 3 ∧ i = .int .i64 (ki : Int) ∧ MW w0 gL gf w.heap.size (foC (scaleM k) (.slice (some ⟨gN, 0, none⟩) 5 5) (.slice A2 ki c2) (.slice none 0 0)) wr ∧
    wr.ownsRow w0.heap.size 48 2 (.slice A2 ki c2) ki (lecs ls) ∧ Hid (LsOK ls ki)) (fun i _ => 3 - (intOf i).toNat)
  case atStart => exact ⟨0, none, 0, [], by omega, rfl, hW, own_nil, Lib.hid ⟨rfl, fun j x hx => by simp at hx⟩⟩
  case round =>
    obtain ⟨wo, rfl⟩ : ∃ wo : World, wo = wr := ⟨_, rfl⟩
    clear hW
    obtain ⟨ki, A2, c2, ls, hki, rfl, hW, hLt, hls⟩ := hrel
    by_cases hlt : ki < 3
    · go_wp2_with fail
      refine (Next_any gL 6 _ (by omega) hW.ln).mono ?_; rintro e wn ⟨⟨j0, rfl, hv1, hv2⟩, hln, hgn⟩
      replace hW := hW.next hln hgn
      have hLt2 := own_g hLt hgn (by have := hW.ord; omega)
      have HLB := Lib.hid fun q (hq : (Value.slice A2 ki c2).ownBlock = some q) => (hLt2.lt q hq).2
      obtain ⟨jn0, rfl⟩ : ∃ jn : Nat, j0 = jn := ⟨j0.toNat, by omega⟩
      obtain ⟨wb, hwb⟩ : ∃ W, W = wn := ⟨_, rfl⟩
      have HSB := Lib.hid hW.sz
      rw [← hwb] at hW hLt2 HLB HSB ⊢
      clear hwb hln hgn hLt
      go_wp2_with fail
      go_loopw [7, 8] (fun pv jv wr => ∃ (jn kk : Nat) (A3 : Option Addr) (c3 : Nat) (l : List Sg), pv = .slice A3 kk c3 ∧ jv = .int .i64 (jn : Int) ∧ jn + kk ≤ 5 ∧
        MW w0 gL gf w.heap.size (foC (scaleM k) (.slice (some ⟨gN, 0, none⟩) 5 5) (.slice A2 ki c2) (.slice none 0 0)) wr ∧ wb.heap.size ≤ wr.heap.size ∧
        wr.ownsRow wb.heap.size 44 5 (.slice A3 kk c3) kk (sgs l) ∧ wr.ownsRow w0.heap.size 48 2 (.slice A2 ki c2) ki (lecs ls) ∧ Hid (PaOK l)) (fun _ jv _ => (intOf jv).toNat)
      case atStart => exact ⟨jn0, 0, none, 0, [], rfl, rfl, by omega, hW, Nat.le_refl _, own_nil, hLt2, Lib.hid ⟨rfl, by simp, fun s hs => by simp at hs⟩⟩
      case round =>
        obtain ⟨wq, rfl⟩ : ∃ wq : World, wq = wr := ⟨_, rfl⟩
        clear hW hLt2
        obtain ⟨jn, kk, A3, c3, l, rfl, rfl, hjk, hW, hzb, hP, hLt, hpa⟩ := hrel
        have hkl := (own_sl hP).sglen
        by_cases hj : 0 < jn
        · have hgLb : gL < wb.heap.size := by have := hW.ord; have := HSB.out; omega
          go_wp2_with fail
          refine (Next_any gL 20 _ (by omega) hW.ln).mono ?_; rintro e wn ⟨⟨x1, rfl, u1, u2⟩, hln, hgn⟩
          replace hW := hW.next hln hgn
          replace hP := own_g hP hgn hgLb
          replace hLt := own_g hLt hgn (by have := hW.ord; omega)
          replace hzb := Nat.le_trans hzb hgn.size
          clear hln hgn
          go_wp2_with fail
          refine (Next_any gL 20 _ (by omega) hW.ln).mono ?_; rintro e wn ⟨⟨y1, rfl, u3, u4⟩, hln, hgn⟩
          replace hW := hW.next hln hgn
          replace hP := own_g hP hgn hgLb
          replace hLt := own_g hLt hgn (by have := hW.ord; omega)
          replace hzb := Nat.le_trans hzb hgn.size
          clear hln hgn
          obtain ⟨y, hy⟩ : ∃ y, y = y1 - 5 := ⟨_, rfl⟩
          have hyw : IntKind.i64.wrap (y1 - 5) = y := by rw [hy]; exact IntWalk.i64_in _ (by omega)
          have hsx : Sm19 x1 := by unfold Sm19; omega
          have hsy : Sm19 y := by unfold Sm19; omega
          have h019 : Sm19 0 := by unfold Sm19; omega
          have HX := Lib.hid hsx
          have HY := Lib.hid hsy
          have H0 := Lib.hid h019
          clear hy u1 u2 u3 u4 hsx hsy h019
          have hjw : IntKind.i64.wrap ((jn : Int) - 1) = ((jn - 1 : Nat) : Int) := by rw [IntWalk.i64_in _ (by omega)]; omega
          by_cases hk0 : kk = 0
          · subst hk0
            have hl0 : l = [] := List.eq_nil_of_length_eq_zero hkl
            have HOK := Lib.hid (hpa.out.snoc (s := ⟨1, x1, y, 0, 0⟩) (by omega) (right_small ⟨HX.out, HY.out, H0.out, H0.out⟩ (.inl ⟨rfl, by rw [hl0]; decide, rfl, rfl⟩)) ⟨HX.out, HY.out, H0.out, H0.out⟩)
            clear hl0
            go_wp2_with (first
              | (at_builtin; refine wpList_app rfl _ _ 34 rfl wb.heap.size sgT0 rfl (own_below hP (bal (Below.refl _ _) _)) (sgc ⟨1, x1, y, 0, 0⟩) rfl (sl_newN _ (by simp) rfl) (oneCell_sgc _) (by omega) (by simp; omega) ?_; intro A4 c4 w4 hown4 hg4 hat4)
              | fail)
            have hP2 := own_below hP (bal (Below.refl _ _) (.cells (sgc ⟨1, x1, y, 0, 0⟩).toArray 44))
            have hW4 := (hW.below (bal (Below.refl _ _) _)).step hg4 (fun q hq => Nat.le_trans HSB.out (hP2.lt q hq).1)
            have hLt4 := own_far (own_below hLt (bal (Below.refl _ _) _)) hg4 (fun q r hq hr => by have := HLB.out q hq; have := (hP2.lt r hr).1; omega)
            have hz4 : wb.heap.size ≤ w4.heap.size := Nat.le_trans (Nat.le_trans hzb (bal (Below.refl _ _) _).size) hg4.size
            go_roundw
            case rel => exact ⟨(jn - 1), _, A4, c4, l ++ [⟨1, x1, y, 0, 0⟩], rfl, by go_num, by omega, hW4, hz4, by rw [sgs_app, sgs_one]; exact hown4, hLt4, HOK⟩
            case measure => (simp [intOf]) <;> omega
          · obtain ⟨kq, rfl⟩ : ∃ kq, kk = kq + 1 := ⟨kk - 1, by omega⟩
            have hkq : kq < l.length := by omega
            obtain ⟨bp, op, hA3, hbp, d0, -⟩ := (own_sl hP).sg kq (by omega) hkq
            have hlk : lastK l = l[kq].kind := by
              unfold lastK; rw [List.getLast?_eq_getElem?, show l.length - 1 = kq by omega, List.getElem?_eq_getElem hkq]; rfl
            have hpk := mayFrom_pieceM l 0 hpa.out.1 _ (List.getElem_mem hkq)
            obtain ⟨lk, hlz⟩ : ∃ z, l[kq].kind = z := ⟨_, rfl⟩
            rw [hlz] at d0 hlk hpk
            have HLK := Lib.hid hlk
            have HPK := Lib.hid hpk
            clear hlz hlk hpk hkq hk0
            subst hA3
            by_cases h4 : lk = 4
            · have HOK := Lib.hid (hpa.out.snoc (s := ⟨1, x1, y, 0, 0⟩) (by omega) (right_small ⟨HX.out, HY.out, H0.out, H0.out⟩ (.inl ⟨rfl, by rw [HLK.out, h4]; decide, rfl, rfl⟩)) ⟨HX.out, HY.out, H0.out, H0.out⟩)
              have h4' : (lk == 4) = true := by simp [h4]
              clear h4
              go_wp2_with (first
                | (at_builtin; refine wpList_app rfl _ _ 34 rfl wb.heap.size sgT0 rfl (own_below hP (bal (Below.refl _ _) _)) (sgc ⟨1, x1, y, 0, 0⟩) rfl (sl_newN _ (by simp) rfl) (oneCell_sgc _) (by omega) (by simp; omega) ?_; intro A4 c4 w4 hown4 hg4 hat4)
                | fail)
              have hP2 := own_below hP (bal (Below.refl _ _) (.cells (sgc ⟨1, x1, y, 0, 0⟩).toArray 44))
              have hW4 := (hW.below (bal (Below.refl _ _) _)).step hg4 (fun q hq => Nat.le_trans HSB.out (hP2.lt q hq).1)
              have hLt4 := own_far (own_below hLt (bal (Below.refl _ _) _)) hg4 (fun q r hq hr => by have := HLB.out q hq; have := (hP2.lt r hr).1; omega)
              have hz4 : wb.heap.size ≤ w4.heap.size := Nat.le_trans (Nat.le_trans hzb (bal (Below.refl _ _) _).size) hg4.size
              go_roundw
              case rel => exact ⟨(jn - 1), _, A4, c4, l ++ [⟨1, x1, y, 0, 0⟩], rfl, by go_num, by omega, hW4, hz4, by rw [sgs_app, sgs_one]; exact hown4, hLt4, HOK⟩
              case measure => (simp [intOf]) <;> omega
            · have h4' : (lk == 4) = false := by simp [h4]
              have HNZ : Hid (lastK l ≠ 0 ∧ lastK l ≠ 4) := Lib.hid (by rw [HLK.out]; exact ⟨HPK.out, h4⟩)
              clear h4
              rcases (show jn = 1 ∨ jn = 2 ∨ jn = 3 ∨ jn = 4 by omega) with rfl | rfl | rfl | rfl
              · have HOK := Lib.hid (hpa.out.snoc (s := ⟨2, x1, y, 0, 0⟩) (by omega) (right_small ⟨HX.out, HY.out, H0.out, H0.out⟩ (.inr (.inl ⟨rfl, HNZ.out.1, HNZ.out.2, rfl, rfl⟩))) ⟨HX.out, HY.out, H0.out, H0.out⟩)
                go_wp2_with (first
                  | (at_builtin; refine wpList_app rfl _ _ 34 rfl wb.heap.size sgT0 rfl (own_below hP (bal (Below.refl _ _) _)) (sgc ⟨2, x1, y, 0, 0⟩) rfl (sl_newN _ (by simp) rfl) (oneCell_sgc _) (by omega) (by simp; omega) ?_; intro A4 c4 w4 hown4 hg4 hat4)
                  | fail)
                have hP2 := own_below hP (bal (Below.refl _ _) (.cells (sgc ⟨2, x1, y, 0, 0⟩).toArray 44))
                have hW4 := (hW.below (bal (Below.refl _ _) _)).step hg4 (fun q hq => Nat.le_trans HSB.out (hP2.lt q hq).1)
                have hLt4 := own_far (own_below hLt (bal (Below.refl _ _) _)) hg4 (fun q r hq hr => by have := HLB.out q hq; have := (hP2.lt r hr).1; omega)
                have hz4 : wb.heap.size ≤ w4.heap.size := Nat.le_trans (Nat.le_trans hzb (bal (Below.refl _ _) _).size) hg4.size
                go_roundw
                case rel => exact ⟨0, _, A4, c4, l ++ [⟨2, x1, y, 0, 0⟩], rfl, by go_num, by omega, hW4, hz4, by rw [sgs_app, sgs_one]; exact hown4, hLt4, HOK⟩
                case measure => (simp [intOf]) <;> omega
              · have HOK := Lib.hid (hpa.out.snoc (s := ⟨4, 0, 0, 0, 0⟩) (by omega) (right_small ⟨H0.out, H0.out, H0.out, H0.out⟩ (.inr (.inr (.inr ⟨rfl, HNZ.out.1, HNZ.out.2, rfl, rfl, rfl, rfl⟩)))) ⟨H0.out, H0.out, H0.out, H0.out⟩)
                go_wp2_with (first
                  | (at_builtin; refine wpList_app rfl _ _ 34 rfl wb.heap.size sgT0 rfl (own_below hP (bal (Below.refl _ _) _)) (sgc ⟨4, 0, 0, 0, 0⟩) rfl (sl_newN _ (by simp) rfl) (oneCell_sgc _) (by omega) (by simp; omega) ?_; intro A4 c4 w4 hown4 hg4 hat4)
                  | fail)
                have hP2 := own_below hP (bal (Below.refl _ _) (.cells (sgc ⟨4, 0, 0, 0, 0⟩).toArray 44))
                have hW4 := (hW.below (bal (Below.refl _ _) _)).step hg4 (fun q hq => Nat.le_trans HSB.out (hP2.lt q hq).1)
                have hLt4 := own_far (own_below hLt (bal (Below.refl _ _) _)) hg4 (fun q r hq hr => by have := HLB.out q hq; have := (hP2.lt r hr).1; omega)
                have hz4 : wb.heap.size ≤ w4.heap.size := Nat.le_trans (Nat.le_trans hzb (bal (Below.refl _ _) _).size) hg4.size
                go_roundw
                case rel => exact ⟨1, _, A4, c4, l ++ [⟨4, 0, 0, 0, 0⟩], rfl, by go_num, by omega, hW4, hz4, by rw [sgs_app, sgs_one]; exact hown4, hLt4, HOK⟩
                case measure => (simp [intOf]) <;> omega
              · have HOK := Lib.hid (hpa.out.snoc (s := ⟨3, x1, y, y, x1⟩) (by omega) (right_small ⟨HX.out, HY.out, HY.out, HX.out⟩ (.inr (.inr (.inl ⟨rfl, HNZ.out.1, HNZ.out.2⟩)))) ⟨HX.out, HY.out, HY.out, HX.out⟩)
                go_wp2_with (first
                  | (at_builtin; refine wpList_app rfl _ _ 34 rfl wb.heap.size sgT0 rfl (own_below hP (bal (Below.refl _ _) _)) (sgc ⟨3, x1, y, y, x1⟩) rfl (sl_newN _ (by simp) rfl) (oneCell_sgc _) (by omega) (by simp; omega) ?_; intro A4 c4 w4 hown4 hg4 hat4)
                  | fail)
                have hP2 := own_below hP (bal (Below.refl _ _) (.cells (sgc ⟨3, x1, y, y, x1⟩).toArray 44))
                have hW4 := (hW.below (bal (Below.refl _ _) _)).step hg4 (fun q hq => Nat.le_trans HSB.out (hP2.lt q hq).1)
                have hLt4 := own_far (own_below hLt (bal (Below.refl _ _) _)) hg4 (fun q r hq hr => by have := HLB.out q hq; have := (hP2.lt r hr).1; omega)
                have hz4 : wb.heap.size ≤ w4.heap.size := Nat.le_trans (Nat.le_trans hzb (bal (Below.refl _ _) _).size) hg4.size
                go_roundw
                case rel => exact ⟨2, _, A4, c4, l ++ [⟨3, x1, y, y, x1⟩], rfl, by go_num, by omega, hW4, hz4, by rw [sgs_app, sgs_one]; exact hown4, hLt4, HOK⟩
                case measure => (simp [intOf]) <;> omega
              · have HOK := Lib.hid (hpa.out.snoc (s := ⟨2, x1, y, 0, 0⟩) (by omega) (right_small ⟨HX.out, HY.out, H0.out, H0.out⟩ (.inr (.inl ⟨rfl, HNZ.out.1, HNZ.out.2, rfl, rfl⟩))) ⟨HX.out, HY.out, H0.out, H0.out⟩)
                go_wp2_with (first
                  | (at_builtin; refine wpList_app rfl _ _ 34 rfl wb.heap.size sgT0 rfl (own_below hP (bal (Below.refl _ _) _)) (sgc ⟨2, x1, y, 0, 0⟩) rfl (sl_newN _ (by simp) rfl) (oneCell_sgc _) (by omega) (by simp; omega) ?_; intro A4 c4 w4 hown4 hg4 hat4)
                  | fail)
                have hP2 := own_below hP (bal (Below.refl _ _) (.cells (sgc ⟨2, x1, y, 0, 0⟩).toArray 44))
                have hW4 := (hW.below (bal (Below.refl _ _) _)).step hg4 (fun q hq => Nat.le_trans HSB.out (hP2.lt q hq).1)
                have hLt4 := own_far (own_below hLt (bal (Below.refl _ _) _)) hg4 (fun q r hq hr => by have := HLB.out q hq; have := (hP2.lt r hr).1; omega)
                have hz4 : wb.heap.size ≤ w4.heap.size := Nat.le_trans (Nat.le_trans hzb (bal (Below.refl _ _) _).size) hg4.size
                go_roundw
                case rel => exact ⟨3, _, A4, c4, l ++ [⟨2, x1, y, 0, 0⟩], rfl, by go_num, by omega, hW4, hz4, by rw [sgs_app, sgs_one]; exact hown4, hLt4, HOK⟩
                case measure => (simp [intOf]) <;> omega
        · obtain rfl : jn = 0 := by omega
          have hgLb : gL < wb.heap.size := by have := hW.ord; have := HSB.out; omega
          go_wp2_with fail
          refine (Next_any gL 25 _ (by omega) hW.ln).mono ?_; rintro e wn ⟨⟨wd, rfl, u1, u2⟩, hln, hgn⟩
          replace hW := hW.next hln hgn
          replace hP := own_g hP hgn hgLb
          replace hLt := own_g hLt hgn (by have := hW.ord; omega)
          replace hzb := Nat.le_trans hzb hgn.size
          clear hln hgn
          have hcd := code_small hpa.out (wd := wd) (by omega)
          have HC := Lib.hid fun W (hs : Sl W 5 A3 kk (sgs l)) => ref_Code_any A3 kk c3 l wd W hs (by omega)
          rw [hcd] at HC
          simp only at HC
          have HLN := Lib.hid fun (s : ByteArray) (hb : bl s = codeS l wd) => (show LeOK ki ⟨abc ki, s⟩ from ⟨rfl, l, wd, hpa.out, u1, by omega, hb⟩)
          have HC2 := Lib.hid (HC.out _ (own_sl hP))
          clear hcd HC u1 u2 hP hkl hjk hj
          go_wp2_with fail
          refine HC2.out.mono ?_; rintro e w5 ⟨s, rfl, hbs, b5⟩
          have hW5 := hW.below b5
          have hLt5 := own_below hLt b5
          have HLE := Lib.hid (HLN.out s hbs)
          have hcut := fun W => abc_cut ki hlt W
          have hkw : IntKind.i64.wrap ((ki : Int) + 1) = (ki : Int) + 1 := IntWalk.i64_in _ (by omega)
          clear hW hLt b5 hbs HC2 HLN
          go_upto_region 21 with (fail)
          refine wp_region_ord (fun W => MW w0 gL gf w.heap.size (foC (scaleM k) (.slice (some ⟨gN, 0, none⟩) 5 5) (.slice A2 ki c2) (.slice none 0 0)) W) [11] 12 (by kernel_rfl) (by kernel_rfl) (hW5.below (bdrew (Below.refl _ _))) ?_
          intro hS
          refine ord_take (v := ?_) 0 rfl rfl (by kernel_rfl) (by kernel_rfl) (fun _ _ _ h => h) (Or.inl ⟨by rfl, ?_⟩) hS ?_
          rotate_left
          · intro W hV
            have q7 := hV.bf.c 7 _ rfl
            have q8 := hV.bf.c 8 _ rfl
            go_simp
            (try with_reducible rfl)
          simp only [Act.put, List.setIfInBounds_toArray, List.set_cons_zero, List.set_cons_succ]
          refine ord_take (v := ?_) 1 rfl rfl (by kernel_rfl) (by kernel_rfl) (fun _ _ _ h => h) (Or.inl ⟨by rfl, ?_⟩) hS ?_
          rotate_left
          · intro W hV
            have q7 := hV.bf.c 7 _ rfl
            have q8 := hV.bf.c 8 _ rfl
            go_simp
            (try with_reducible rfl)
          simp only [Act.put, List.setIfInBounds_toArray, List.set_cons_zero, List.set_cons_succ]
          refine ord_take (v := ?_) 2 rfl rfl (by kernel_rfl) (by kernel_rfl) (fun _ _ _ h => h) (Or.inl ⟨by rfl, ?_⟩) hS ?_
          rotate_left
          · intro W hV
            have q7 := hV.bf.c 7 _ rfl
            have q8 := hV.bf.c 8 _ rfl
            go_simp
            (try with_reducible rfl)
          simp only [Act.put, List.setIfInBounds_toArray, List.set_cons_zero, List.set_cons_succ]
          refine ord_take (v := ?_) 3 rfl rfl (by kernel_rfl) (by kernel_rfl) (fun _ _ _ h => h) (Or.inl ⟨by rfl, ?_⟩) hS ?_
          rotate_left
          · intro W hV
            have q7 := hV.bf.c 7 _ rfl
            have q8 := hV.bf.c 8 _ rfl
            go_simp
            (try with_reducible rfl)
          simp only [Act.put, List.setIfInBounds_toArray, List.set_cons_zero, List.set_cons_succ]
          refine ord_take (v := ?_) 4 rfl rfl (by kernel_rfl) (by kernel_rfl) (fun _ _ _ h => h) (Or.inl ⟨by rfl, ?_⟩) hS ?_
          rotate_left
          · intro W hV
            have q7 := hV.bf.c 7 _ rfl
            have q8 := hV.bf.c 8 _ rfl
            go_simp
            (try with_reducible rfl)
          simp only [Act.put, List.setIfInBounds_toArray, List.set_cons_zero, List.set_cons_succ]
          refine ord_take (v := ?_) 5 rfl rfl (by kernel_rfl) (by kernel_rfl) (fun _ _ _ h => h) (Or.inl ⟨by rfl, ?_⟩) hS ?_
          rotate_left
          · intro W hV
            have q7 := hV.bf.c 7 _ rfl
            have q8 := hV.bf.c 8 _ rfl
            go_simp
            (try with_reducible rfl)
          simp only [Act.put, List.setIfInBounds_toArray, List.set_cons_zero, List.set_cons_succ]
          refine ord_take (v := ?_) 6 rfl rfl (by kernel_rfl) (by kernel_rfl) (fun _ _ _ h => h) (Or.inl ⟨by rfl, ?_⟩) hS ?_
          rotate_left
          · intro W hV
            have q7 := hV.bf.c 7 _ rfl
            have q8 := hV.bf.c 8 _ rfl
            go_simp
            (try with_reducible rfl)
          simp only [Act.put, List.setIfInBounds_toArray, List.set_cons_zero, List.set_cons_succ]
          refine ord_take (v := ?_) 7 rfl rfl (by kernel_rfl) (by kernel_rfl) (fun _ _ _ h => h) (Or.inl ⟨by rfl, ?_⟩) hS ?_
          rotate_left
          · intro W hV
            have q7 := hV.bf.c 7 _ rfl
            have q8 := hV.bf.c 8 _ rfl
            go_simp
            (try with_reducible rfl)
          simp only [Act.put, List.setIfInBounds_toArray, List.set_cons_zero, List.set_cons_succ]
          clear hS
          have q1 := bal (bdrew (Below.refl w5.heap.size w5)) (.cells (lec ⟨abc ki, s⟩).toArray 48)
          have hWa := hW5.below q1
          have hLa := own_below hLt5 q1
          refine ord_one 8 rfl (by kernel_rfl) rfl ?_
          intro K hK
          go_simp
          refine hK.out _ _ hWa ?_
          clear hK K
          try simp only
          refine ord_one 9 rfl (by kernel_rfl) rfl ?_
          intro K hK
          refine step_app (by rfl) _ _ 27 (by rfl) w0.heap.size leT (by rfl) hLa (lec ⟨abc ki, s⟩) (by rfl) (sl_newN (lec ⟨abc ki, s⟩) rfl rfl) (one_lec _) (by omega) hWa.sz ?_
          intro A6 c6 w6 hown6 hg6 hat6
          have hW6 := hWa.step hg6 (fun q hq => (hLa.lt q hq).1)
          refine hK.out _ _ hW6 ?_
          clear hK K hat6 hg6 hWa hLa hW5 hLt5 q1
          try simp only
          have hS := hW6
          refine ord_take (v := ?_) 10 rfl rfl (by kernel_rfl) (by kernel_rfl) (fun _ _ _ h => h) (Or.inl ⟨by rfl, ?_⟩) hS ?_
          rotate_left
          · intro W hV
            have q7 := hV.bf.c 7 _ rfl
            have q8 := hV.bf.c 8 _ rfl
            go_simp
            (try with_reducible rfl)
          simp only [Act.put, List.setIfInBounds_toArray, List.set_cons_zero, List.set_cons_succ]
          clear hS
          refine ord_cut (by kernel_rfl) ?_
          have q7 := hW6.bf.c 7 _ rfl
          have n7 := hW6.bf.nf 7
          refine any_one 11 rfl (by kernel_rfl) ?_
          intro K hK
          go_simp
          refine hK.out _ _ ?_
          clear hK K
          try simp only
          refine any_done (by kernel_rfl) ?_
          refine NoPanic.normal ?_
          have hW7 := hW6.set 7 (.slice A6 (ki + 1) c6) (by show 7 < 9; omega)
          have hW7' : MW w0 gL gf w.heap.size (foC (scaleM k) (.slice (some ⟨gN, 0, none⟩) 5 5) (.slice A6 (ki + 1) c6) (.slice none 0 0)) (w6.setCell ⟨gf, 7, none⟩ (.slice A6 (ki + 1) c6)) := hW7
          have hL7 := own_setCell hown6 hW6.ord.2.2 7 (.slice A6 (ki + 1) c6)
          have HLS : Hid (LsOK (ls ++ [⟨abc ki, s⟩]) (ki + 1)) := Lib.hid (lsOK_snoc hls.out HLE.out)
          obtain ⟨w7, hw7⟩ : ∃ W, W = w6.setCell ⟨gf, 7, none⟩ (.slice A6 (ki + 1) c6) := ⟨_, rfl⟩
          rw [← hw7] at hW7' hL7 ⊢
          clear hW6 hW7 q7 n7 hw7 hown6 hcut
          go_wp2_with fail
          go_roundw
          case rel => exact ⟨ki + 1, A6, c6, ls ++ [⟨abc ki, s⟩], by omega, by go_num, hW7', by rw [lecs_app, lecs_one]; exact hL7, HLS⟩
          case measure => (simp [intOf]) <;> omega
    · obtain rfl : ki = 3 := by omega
      go_wp2_with fail
      refine (Next_any gL 4 _ (by omega) hW.ln).mono ?_; rintro e wn ⟨⟨j0, rfl, hv1, hv2⟩, hln, hgn⟩
      replace hW := hW.next hln hgn
      have hLt2 := own_g hLt hgn (by have := hW.ord; omega)
      have HLB := Lib.hid fun q (hq : (Value.slice A2 3 c2).ownBlock = some q) => (hLt2.lt q hq).2
      obtain ⟨jn0, rfl⟩ : ∃ jn : Nat, j0 = jn := ⟨j0.toNat, by omega⟩
      obtain ⟨wb, hwb⟩ : ∃ W, W = wn := ⟨_, rfl⟩
      have HSB := Lib.hid hW.sz
      rw [← hwb] at hW hLt2 HLB HSB ⊢
      clear hwb hln hgn hLt
      go_wp2_with fail
      go_loopw [13] (fun jv wr => ∃ (jn kk : Nat) (A3 : Option Addr) (c3 : Nat) (ks : List Pr), jv = .int .i64 (jn : Int) ∧ jn + kk ≤ 3 ∧
        MW w0 gL gf w.heap.size (foC (scaleM k) (.slice (some ⟨gN, 0, none⟩) 5 5) (.slice A2 3 c2) (.slice A3 kk c3)) wr ∧ wb.heap.size ≤ wr.heap.size ∧
        wr.ownsRow wb.heap.size 70 3 (.slice A3 kk c3) kk (prcs ks) ∧ wr.ownsRow w0.heap.size 48 2 (.slice A2 3 c2) 3 (lecs ls) ∧ Hid (∀ x ∈ ks, PrOK x)) (fun jv _ => (intOf jv).toNat)
      case atStart => exact ⟨jn0, 0, none, 0, [], rfl, by omega, hW, Nat.le_refl _, own_nil, hLt2, Lib.hid (fun x hx => by simp at hx)⟩
      case round =>
        obtain ⟨wq, rfl⟩ : ∃ wq : World, wq = wr := ⟨_, rfl⟩
        clear hW hLt2
        obtain ⟨jn, kk, A3, c3, ks, rfl, hjk, hW, hzb, hP, hLt, hks⟩ := hrel
        have hgLb : gL < wb.heap.size := by have := hW.ord; have := HSB.out; omega
        by_cases hj : 0 < jn
        · go_wp2_with fail
          refine (Next_any gL 3 _ (by omega) hW.ln).mono ?_; rintro e wn ⟨⟨a0, rfl, u1, u2⟩, hln, hgn⟩
          replace hW := hW.next hln hgn
          replace hP := own_g hP hgn hgLb
          replace hLt := own_g hLt hgn (by have := hW.ord; omega)
          replace hzb := Nat.le_trans hzb hgn.size
          clear hln hgn
          obtain ⟨a, rfl⟩ : ∃ a : Nat, a0 = a := ⟨a0.toNat, by omega⟩
          go_wp2_with fail
          refine (Next_any gL 3 _ (by omega) hW.ln).mono ?_; rintro e wn ⟨⟨b0, rfl, u3, u4⟩, hln, hgn⟩
          replace hW := hW.next hln hgn
          replace hP := own_g hP hgn hgLb
          replace hLt := own_g hLt hgn (by have := hW.ord; omega)
          replace hzb := Nat.le_trans hzb hgn.size
          clear hln hgn
          obtain ⟨b, rfl⟩ : ∃ b : Nat, b0 = b := ⟨b0.toNat, by omega⟩
          obtain ⟨wc, hwc⟩ : ∃ W, W = wn := ⟨_, rfl⟩
          rw [← hwc] at hW hP hLt hzb ⊢
          clear hwc
          have ha3 : a < 3 := by omega
          have hb3 : b < 3 := by omega
          have hcu1 := fun W => abc_cut a ha3 W
          have hcu2 := fun W => abc_cut b hb3 W
          have hkw1 : IntKind.i64.wrap ((a : Int) + 1) = (a : Int) + 1 := IntWalk.i64_in _ (by omega)
          have hkw2 : IntKind.i64.wrap ((b : Int) + 1) = (b : Int) + 1 := IntWalk.i64_in _ (by omega)
          clear u1 u2 u3 u4
          go_upto_region 26 with (fail)
          refine wp_region_ord (fun W => MW w0 gL gf w.heap.size (foC (scaleM k) (.slice (some ⟨gN, 0, none⟩) 5 5) (.slice A2 3 c2) (.slice A3 kk c3)) W) [17] 18 (by kernel_rfl) (by kernel_rfl) (hW.below (bdrew (Below.refl _ _))) ?_
          intro hS
          refine ord_take (v := ?_) 0 rfl rfl (by kernel_rfl) (by kernel_rfl) (fun _ _ _ h => h) (Or.inl ⟨by rfl, ?_⟩) hS ?_
          rotate_left
          · intro W hV
            have q7 := hV.bf.c 7 _ rfl
            have q8 := hV.bf.c 8 _ rfl
            go_simp
            (try with_reducible rfl)
          simp only [Act.put, List.setIfInBounds_toArray, List.set_cons_zero, List.set_cons_succ]
          refine ord_take (v := ?_) 1 rfl rfl (by kernel_rfl) (by kernel_rfl) (fun _ _ _ h => h) (Or.inl ⟨by rfl, ?_⟩) hS ?_
          rotate_left
          · intro W hV
            have q7 := hV.bf.c 7 _ rfl
            have q8 := hV.bf.c 8 _ rfl
            go_simp
            (try with_reducible rfl)
          simp only [Act.put, List.setIfInBounds_toArray, List.set_cons_zero, List.set_cons_succ]
          refine ord_take (v := ?_) 2 rfl rfl (by kernel_rfl) (by kernel_rfl) (fun _ _ _ h => h) (Or.inl ⟨by rfl, ?_⟩) hS ?_
          rotate_left
          · intro W hV
            have q7 := hV.bf.c 7 _ rfl
            have q8 := hV.bf.c 8 _ rfl
            go_simp
            (try with_reducible rfl)
          simp only [Act.put, List.setIfInBounds_toArray, List.set_cons_zero, List.set_cons_succ]
          refine ord_take (v := ?_) 3 rfl rfl (by kernel_rfl) (by kernel_rfl) (fun _ _ _ h => h) (Or.inl ⟨by rfl, ?_⟩) hS ?_
          rotate_left
          · intro W hV
            have q7 := hV.bf.c 7 _ rfl
            have q8 := hV.bf.c 8 _ rfl
            go_simp
            (try with_reducible rfl)
          simp only [Act.put, List.setIfInBounds_toArray, List.set_cons_zero, List.set_cons_succ]
          refine ord_take (v := ?_) 4 rfl rfl (by kernel_rfl) (by kernel_rfl) (fun _ _ _ h => h) (Or.inl ⟨by rfl, ?_⟩) hS ?_
          rotate_left
          · intro W hV
            have q7 := hV.bf.c 7 _ rfl
            have q8 := hV.bf.c 8 _ rfl
            go_simp
            (try with_reducible rfl)
          simp only [Act.put, List.setIfInBounds_toArray, List.set_cons_zero, List.set_cons_succ]
          refine ord_take (v := ?_) 5 rfl rfl (by kernel_rfl) (by kernel_rfl) (fun _ _ _ h => h) (Or.inl ⟨by rfl, ?_⟩) hS ?_
          rotate_left
          · intro W hV
            have q7 := hV.bf.c 7 _ rfl
            have q8 := hV.bf.c 8 _ rfl
            go_simp
            (try with_reducible rfl)
          simp only [Act.put, List.setIfInBounds_toArray, List.set_cons_zero, List.set_cons_succ]
          refine ord_take (v := ?_) 6 rfl rfl (by kernel_rfl) (by kernel_rfl) (fun _ _ _ h => h) (Or.inl ⟨by rfl, ?_⟩) hS ?_
          rotate_left
          · intro W hV
            have q7 := hV.bf.c 7 _ rfl
            have q8 := hV.bf.c 8 _ rfl
            go_simp
            (try with_reducible rfl)
          simp only [Act.put, List.setIfInBounds_toArray, List.set_cons_zero, List.set_cons_succ]
          refine ord_take (v := ?_) 7 rfl rfl (by kernel_rfl) (by kernel_rfl) (fun _ _ _ h => h) (Or.inl ⟨by rfl, ?_⟩) hS ?_
          rotate_left
          · intro W hV
            have q7 := hV.bf.c 7 _ rfl
            have q8 := hV.bf.c 8 _ rfl
            go_simp
            (try with_reducible rfl)
          simp only [Act.put, List.setIfInBounds_toArray, List.set_cons_zero, List.set_cons_succ]
          refine ord_take (v := ?_) 8 rfl rfl (by kernel_rfl) (by kernel_rfl) (fun _ _ _ h => h) (Or.inl ⟨by rfl, ?_⟩) hS ?_
          rotate_left
          · intro W hV
            have q7 := hV.bf.c 7 _ rfl
            have q8 := hV.bf.c 8 _ rfl
            go_simp
            (try with_reducible rfl)
          simp only [Act.put, List.setIfInBounds_toArray, List.set_cons_zero, List.set_cons_succ]
          refine ord_take (v := ?_) 9 rfl rfl (by kernel_rfl) (by kernel_rfl) (fun _ _ _ h => h) (Or.inl ⟨by rfl, ?_⟩) hS ?_
          rotate_left
          · intro W hV
            have q7 := hV.bf.c 7 _ rfl
            have q8 := hV.bf.c 8 _ rfl
            go_simp
            (try with_reducible rfl)
          simp only [Act.put, List.setIfInBounds_toArray, List.set_cons_zero, List.set_cons_succ]
          refine ord_take (v := ?_) 10 rfl rfl (by kernel_rfl) (by kernel_rfl) (fun _ _ _ h => h) (Or.inl ⟨by rfl, ?_⟩) hS ?_
          rotate_left
          · intro W hV
            have q7 := hV.bf.c 7 _ rfl
            have q8 := hV.bf.c 8 _ rfl
            go_simp
            (try with_reducible rfl)
          simp only [Act.put, List.setIfInBounds_toArray, List.set_cons_zero, List.set_cons_succ]
          have hWd := hS
          have hPd := own_below hP (bdrew (Below.refl wc.heap.size wc))
          have hLd := own_below hLt (bdrew (Below.refl wc.heap.size wc))
          have hzd : wb.heap.size ≤ wc.drew.heap.size := hzb
          clear hS hW hP hLt
          refine ord_one 11 rfl (by kernel_rfl) rfl ?_
          intro K hK
          go_simp
          refine (Next_any gL 9 _ (by omega) hWd.ln).mono ?_; rintro e wn ⟨⟨v9, rfl, hv1, hv2⟩, hln, hgn⟩
          have hWe := hWd.next hln hgn
          have hPe := own_g hPd hgn hgLb
          have hLe := own_g hLd hgn (by have := hWe.ord; omega)
          have hze := Nat.le_trans hzd hgn.size
          refine hK.out _ _ hWe ?_
          clear hK K hln hgn hWd hPd hLd hzd
          try simp only
          obtain ⟨mv, hmv⟩ : ∃ mv, mv = v9 - 4 := ⟨_, rfl⟩
          have hmw : IntKind.i64.wrap (v9 - 4) = mv := by rw [hmv]; exact IntWalk.i64_in _ (by omega)
          have HPR : Hid (PrOK ⟨abc a, abc b, mv⟩) := Lib.hid ⟨⟨a, b, ha3, hb3, rfl, rfl⟩, by show -4 ≤ mv; omega, by show mv ≤ 4; omega⟩
          clear hmv hv1 hv2
          have hS := hWe
          refine ord_take (v := ?_) 12 rfl rfl (by kernel_rfl) (by kernel_rfl) (fun _ _ _ h => h) (Or.inl ⟨by rfl, ?_⟩) hS ?_
          rotate_left
          · intro W hV
            have q7 := hV.bf.c 7 _ rfl
            have q8 := hV.bf.c 8 _ rfl
            go_simp
            (try with_reducible rfl)
          simp only [Act.put, List.setIfInBounds_toArray, List.set_cons_zero, List.set_cons_succ]
          refine ord_take (v := ?_) 13 rfl rfl (by kernel_rfl) (by kernel_rfl) (fun _ _ _ h => h) (Or.inl ⟨by rfl, ?_⟩) hS ?_
          rotate_left
          · intro W hV
            have q7 := hV.bf.c 7 _ rfl
            have q8 := hV.bf.c 8 _ rfl
            go_simp
            (try with_reducible rfl)
          simp only [Act.put, List.setIfInBounds_toArray, List.set_cons_zero, List.set_cons_succ]
          clear hS
          have q1 := bal (Below.refl wn.heap.size wn) (.cells (prc ⟨abc a, abc b, mv⟩).toArray 70)
          have hWa := hWe.below q1
          have hPa := own_below hPe q1
          have hLa := own_below hLe q1
          refine ord_one 14 rfl (by kernel_rfl) rfl ?_
          intro K hK
          go_simp
          refine hK.out _ _ hWa ?_
          clear hK K
          try simp only
          refine ord_one 15 rfl (by kernel_rfl) rfl ?_
          intro K hK
          refine step_app (by rfl) _ _ 28 (by rfl) wb.heap.size prT (by rfl) hPa (prc ⟨abc a, abc b, mv⟩) (by rfl) (sl_newN (prc ⟨abc a, abc b, mv⟩) rfl rfl) (one_prc _) (by omega) (Nat.le_trans hze q1.size) ?_
          intro A6 c6 w6 hown6 hg6 hat6
          have hW6 := hWa.step hg6 (fun q hq => Nat.le_trans HSB.out (hPa.lt q hq).1)
          have hL6 := own_far hLa hg6 (fun q r hq hr => by have := HLB.out q hq; have := (hPa.lt r hr).1; omega)
          have hz6 : wb.heap.size ≤ w6.heap.size := Nat.le_trans (Nat.le_trans hze q1.size) hg6.size
          refine hK.out _ _ hW6 ?_
          clear hK K hat6 hg6 hWa hPa hLa hWe hPe hLe q1 hze
          try simp only
          have hS := hW6
          refine ord_take (v := ?_) 16 rfl rfl (by kernel_rfl) (by kernel_rfl) (fun _ _ _ h => h) (Or.inl ⟨by rfl, ?_⟩) hS ?_
          rotate_left
          · intro W hV
            have q7 := hV.bf.c 7 _ rfl
            have q8 := hV.bf.c 8 _ rfl
            go_simp
            (try with_reducible rfl)
          simp only [Act.put, List.setIfInBounds_toArray, List.set_cons_zero, List.set_cons_succ]
          clear hS
          refine ord_cut (by kernel_rfl) ?_
          have q8 := hW6.bf.c 8 _ rfl
          have n8 := hW6.bf.nf 8
          refine any_one 17 rfl (by kernel_rfl) ?_
          intro K hK
          go_simp
          refine hK.out _ _ ?_
          clear hK K
          try simp only
          refine any_done (by kernel_rfl) ?_
          refine NoPanic.normal ?_
          have hW7 := hW6.set 8 (.slice A6 (kk + 1) c6) (by show 8 < 9; omega)
          have hW7' : MW w0 gL gf w.heap.size (foC (scaleM k) (.slice (some ⟨gN, 0, none⟩) 5 5) (.slice A2 3 c2) (.slice A6 (kk + 1) c6)) (w6.setCell ⟨gf, 8, none⟩ (.slice A6 (kk + 1) c6)) := hW7
          have hL7 := own_setCell hL6 hW6.ord.2.2 8 (.slice A6 (kk + 1) c6)
          have hP7 := own_setCell hown6 (show gf < wb.heap.size by have := hW6.ord; have := HSB.out; omega) 8 (.slice A6 (kk + 1) c6)
          have hz7 : wb.heap.size ≤ (w6.setCell ⟨gf, 8, none⟩ (.slice A6 (kk + 1) c6)).heap.size := by simp [World.setCell]; exact hz6
          have HKS : Hid (∀ x ∈ ks ++ [⟨abc a, abc b, mv⟩], PrOK x) := Lib.hid (fun x hx => by
            rcases List.mem_append.1 hx with hx | hx
            · exact hks.out x hx
            · rw [List.mem_singleton] at hx; subst hx; exact HPR.out)
          obtain ⟨w7, hw7⟩ : ∃ W, W = w6.setCell ⟨gf, 8, none⟩ (.slice A6 (kk + 1) c6) := ⟨_, rfl⟩
          rw [← hw7] at hW7' hL7 hP7 hz7 ⊢
          have hjw : IntKind.i64.wrap ((jn : Int) - 1) = ((jn - 1 : Nat) : Int) := by rw [IntWalk.i64_in _ (by omega)]; omega
          clear hW6 hW7 q8 n8 hw7 hown6 hcu1 hcu2 hL6 hz6
          go_wp2_with fail
          go_roundw
          case rel => exact ⟨jn - 1, kk + 1, A6, c6, ks ++ [⟨abc a, abc b, mv⟩], by go_num, by omega, hW7', hz7, by rw [prcs_app, prcs_one]; exact hP7, hL7, HKS⟩
          case measure => (simp [intOf]) <;> omega
        · obtain rfl : jn = 0 := by omega
          obtain ⟨CF, hCF⟩ : ∃ CF, CF = foC (scaleM k) (.slice (some ⟨gN, 0, none⟩) 5 5) (.slice A2 3 c2) (.slice A3 kk c3) := ⟨_, rfl⟩
          have h9 : CF.length = 9 := by rw [hCF]; rfl
          have h1c : ∀ v ∈ CF, v.oneCell' = true := by rw [hCF]; intro v hv; simp only [foC, List.mem_cons, List.not_mem_nil, or_false] at hv; rcases hv with rfl | rfl | rfl | rfl | rfl | rfl | rfl | rfl | rfl <;> rfl
          have hns := HNM.out _ _ _ _ hW
          have hkn : ks.length = kk := by have := (own_sl hP).1; rw [prcs_len] at this; omega
          have HCF := Lib.hid hCF
          rw [← hCF] at hW
          have hbf := hW.bf
          have hb2 := hW.b2
          have hF := hb2.putAll CF (by rw [h9]; rfl)
          have hB1 : Below w.heap.size w wq := ⟨hW.os.trans hB0.os, hW.tape.trans hB0.tape, hW.output.trans hB0.output, Nat.le_trans hB0.size hW.sz, fun b hb => by
            have := hW.ord
            exact (hW.gr b (by have := hB0.size; omega) (by omega) (by omega)).trans (hB0.block b hb)⟩
          have hns2 := sl_apart hns HNE.out.2.2.2 CF
          have hL2 := own_setCells (g := w.heap.size) (by have := hW.ord; omega) CF 0 _ hLt
          have hP2 := own_setCells (g := w.heap.size) (by have := hW.ord; omega) CF 0 _ hP
          clear hCF hns hLt hP hgLb hzb
          go_wp2_with (first
            | (refine wpList_load_rec rfl _ _ rfl gf rfl CF 9 foT hbf h9 ?_)
            | (refine wpList_store_rec rfl _ _ _ rfl w.heap.size CF foZ rfl rfl 9 foT hb2 rfl h9 h1c ?_)
            | fail)
          refine bodyPost_ret (result_rec1 rfl rfl foT hF h9) rfl ?_
          obtain ⟨hl3, hle⟩ := hls.out
          have hli : ∃ x0 x1 x2, ls = [x0, x1, x2] := by
            match ls, hl3 with
            | [x0, x1, x2], _ => exact ⟨x0, x1, x2, rfl⟩
          obtain ⟨x0, x1, x2, rfl⟩ := hli
          have o0 := hle 0 x0 rfl
          have o1 := hle 1 x1 rfl
          have o2 := hle 2 x2 rfl
          refine ⟨⟨scaleM k, namesM, [x0, x1, x2], ks⟩, CF, rfl, ⟨⟨by show 5 ≤ _; omega, by show 3 ≤ _; omega, by show ks.length ≤ _; omega, ?_, ?_⟩, ?_⟩, ⟨⟨k, hk1.1, hk1.2, rfl⟩, rfl, ⟨x0, x1, x2, rfl, o0, o1, o2⟩, by show ks.length ≤ 3; omega, hks.out⟩, below_setCells (Nat.le_refl _) _ _ _ hB1⟩
          · intro s hs
            simp only [namesM, List.mem_cons, List.not_mem_nil, or_false] at hs
            rcases hs with rfl | rfl | rfl | rfl | rfl <;> decide
          · have hz : ∀ i x, LeOK i x → SzOK x.name ∧ SzOK x.prog := fun i x hx => by
              have h1 := hx.prog
              refine ⟨?_, by unfold SzOK; omega⟩
              rw [hx.1]; unfold SzOK
              match i with
              | 0 => decide
              | 1 => decide
              | _ + 2 => show strC.size ≤ _; decide
            intro x hx
            simp only [List.mem_cons, List.not_mem_nil, or_false] at hx
            rcases hx with rfl | rfl | rfl
            · exact hz 0 _ o0
            · exact hz 1 _ o1
            · exact hz 2 _ o2
          · rw [← hkn] at HCF hP2
            exact ⟨_, _, _, 5, c2, c3, HCF.out, hns2, own_sl hL2, own_sl hP2⟩
end Go.Proofs.YtaphmonpdnbiiaaGreat
