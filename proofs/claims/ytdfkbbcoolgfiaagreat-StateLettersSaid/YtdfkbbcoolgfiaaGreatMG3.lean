/- The reference's machine: operators that draw. -/
import Derived.Test.YtdfkbbcoolgfiaaGreatMG2
import Derived.Deep.RegionHeld3
namespace Go.Proofs.YtdfkbbcoolgfiaaGreat
open Go.RowKit Go.BigFrame

section
variable {w w' w0 : World} {g : Nat} {P : List ByteArray} {main : ByteArray} {F F0 : List (Int × Nat)} {M : GM} {er : Int} {Aw : Option Addr} {cw : Nat}
theorem Sl.two {n : Nat} {v : List Int} (h : Sl w 1 Aw n (ints v)) (hn : 0 < n) : ∃ b off : Nat, Aw = some ⟨b, off, none⟩ ∧ b < w.heap.size ∧ ∀ k, k < n → w.cell? ⟨b, off + k, none⟩ = some (.int .i64 (v[k]?.getD 0)) := by
  obtain ⟨b, off, e, hb, hc⟩ := h.2 hn
  have hl : v.length = n := by have := h.1; simp [ints] at this; omega
  refine ⟨b, off, e, hb, fun k hk => hc k _ ?_⟩
  simp [ints, List.getElem?_eq_getElem (show k < v.length by omega)]
set_option maxRecDepth 100000 in
set_option maxHeartbeats 1000000 in
theorem draw2 (h : RW w g P main F M 0 Aw cw) (hok : GOK M) (hm : M.wait.length = 2) :
    Calls Tryz.prog 189 #[.pointer (some ⟨g, 0, none⟩), .int .i64 2, .slice Aw 2 cw] w (GP g P main F Aw cw w (moveG M (M.wait[0]?.getD 0) (M.wait[1]?.getD 0))) := by
  have HRW := Lib.hid h
  obtain ⟨ρ, Ap, cp, Ai, ci, Aa, ca, Al, cl, h⟩ := h
  have c5 := h.rc.c 5 _ rfl
  have c6 := h.rc.c 6 _ rfl
  have c7 := h.rc.c 7 _ rfl
  have hlt := h.rc.lt
  have hx := hok.x
  have hy := hok.y
  have hl3 := (mayB_from hok.may).2
  have hlc := h.lc
  have hsl := h.rr.hl
  have hws := own_sl h.rr.hw
  rw [hm] at hws
  obtain ⟨bw, ow, rfl, hbw, hcw⟩ := hws.two (by omega)
  have HOK := Lib.hid hok
  have hvb := VB.of hok.wv
  clear h hok hws
  have d0 := hcw 0 (by omega)
  rw [Nat.add_zero] at d0
  have d1 := hcw 1 (by omega)
  have b0 := hvb 0
  have b1 := hvb 1
  obtain ⟨a, ha⟩ : ∃ z, M.wait[0]?.getD 0 = z := ⟨_, rfl⟩
  obtain ⟨b, hb⟩ : ∃ z, M.wait[1]?.getD 0 = z := ⟨_, rfl⟩
  rw [ha] at d0 b0 ⊢
  rw [hb] at d1 b1 ⊢
  obtain ⟨⟨L, er⟩, hE⟩ : ∃ E, startL M.l (M.x + a) (M.y + b) = E := ⟨_, rfl⟩
  have hR : moveG M a b = if er = 0 then .ok { M with l := L, x := M.x + a, y := M.y + b } else .bad er := by
    unfold moveG; rw [takeG_start, hE]
  obtain ⟨R, hRR⟩ : ∃ R, moveG M a b = R := ⟨_, rfl⟩
  rw [hRR] at hR ⊢
  have HR := Lib.hid hR
  have HE := Lib.hid hE
  have wr1 : IntKind.i64.wrap (M.x + a) = M.x + a := IntWalk.i64_in _ (by omega)
  have wr2 : IntKind.i64.wrap (M.y + b) = M.y + b := IntWalk.i64_in _ (by omega)
  have HM := Lib.hid hm
  clear hRR hcw hvb hR hE hm ha hb
  go_enter Tryz.func189, Tryz.ntmps189
  go_wp2_with fail
  refine wp_region_cut (u := .pointer (some ⟨g, 0, none⟩)) 19 (by kernel_rfl) rfl (by simp only [List.take_succ_cons, List.take_zero]; rfl) (by simp only [List.drop_succ_cons, List.drop_zero]; rfl) (by kernel_rfl) (by kernel_rfl) (by kernel_rfl) (by kernel_rfl) (by kernel_rfl) (by kernel_rfl) (fun _ _ h => by cases h.1) (fun _ => rfl) ?_
  try simp only [Act.put, List.setIfInBounds_toArray, List.set_cons_zero, List.set_cons_succ]
  repeat (go_big_quiet_step (fail))
  refine wpQuiet_nil ?_
  intro _ hw'
  obtain ⟨nq, rfl⟩ := hw'
  have B0 : Below w.heap.size w (w.drewN nq) := bdrewN (Below.refl _ _) _
  go_wp2_with fail
  refine (ref_Start_any Al M.l.length cl _ _ M.l (L, er) _ (by omega) hlc (hsl.below B0) HE.out).mono ?_; rintro e w1 ⟨A1, c1, rfl, hown1, hb1⟩
  have hB1 : Below w.heap.size w w1 := btr B0 hb1
  have HP := Lib.hid (put_any40 (w0 := w) (w := w1) L er (M.x + a) (M.y + b) A1 L.length c1 HRW.out hB1 (own_sl hown1) rfl (own_cap hown1) (fun b off e => own_apart hown1 b off e))
  rw [← HR.out] at HP
  have hBB : Below g w w1 := hB1.mono (Nat.le_of_lt hlt)
  have e5 := (later_cell hB1 hlt).trans c5
  have e6 := (later_cell hB1 hlt).trans c6
  have k0 := (later_cell hB1 hbw).trans d0
  have k1 := (later_cell hB1 hbw).trans d1
  have HPq : ∀ q, Calls Tryz.prog 193 #[.pointer (some ⟨g, 0, none⟩), .slice A1 L.length c1, .int .i64 er, .int .i64 (M.x + a), .int .i64 (M.y + b)] (w1.drewN q) (GP g P main F (some ⟨bw, ow, none⟩) cw (w1.drewN q) R) := fun q => by
    have := put_any40 (w0 := w) (w := w1.drewN q) L er (M.x + a) (M.y + b) A1 L.length c1 HRW.out (bdrewN hB1 q) ((own_sl hown1).below (bdrewN (Below.refl _ _) q)) rfl (own_cap hown1) (fun b off e => own_apart hown1 b off e)
    rw [← HR.out] at this
    exact this
  have HQ := Lib.hid HPq
  clear HP HPq hown1 hb1 hB1 hsl c5 c6 c7 d0 d1
  go_wp2_with fail
  refine NoPanic.normal ?_
  go_wp2_with fail
  refine wp_region_cut (u := .pointer (some ⟨g, 0, none⟩)) 18 (by kernel_rfl) rfl (by simp only [List.take_succ_cons, List.take_zero]; rfl) (by simp only [List.drop_succ_cons, List.drop_zero]; rfl) (by kernel_rfl) (by kernel_rfl) (by kernel_rfl) (by kernel_rfl) (by kernel_rfl) (by kernel_rfl) (fun _ _ h => by cases h.1) (fun _ => rfl) ?_
  try simp only [Act.put, List.setIfInBounds_toArray, List.set_cons_zero, List.set_cons_succ]
  repeat (go_big_quiet_step (fail))
  refine wpQuiet_nil ?_
  intro _ hw'
  obtain ⟨nq, rfl⟩ := hw'
  have hBD : Below g w (w1.drewN nq) := hBB.trans ((bdrewN (Below.refl w1.heap.size w1) nq).mono (Nat.le_of_lt (by have := hBB.size; omega)))
  go_wp2_with fail
  refine (HQ.out nq).mono ?_; rintro e w2 ⟨rfl, hb2, hr2⟩
  go_wp2_with fail
  refine NoPanic.normal ?_
  go_wp2_with fail
  go_end0
  exact ⟨rfl, hBD.trans hb2, hr2⟩
theorem GP.drew {w1 : World} {r : GR} {e : Ending} {w' : World} (hlt : g < w.heap.size) (hb : Below w.heap.size w w1) (h : GP g P main F Aw cw w1 r e w') : GP g P main F Aw cw w r e w' :=
  ⟨h.1, (hb.mono (Nat.le_of_lt hlt)).trans h.2.1, h.2.2⟩
set_option maxRecDepth 100000 in
set_option maxHeartbeats 1000000 in
theorem draw3 (h : RW w g P main F M 0 Aw cw) (hok : GOK M) (hm : M.wait.length = 2) :
    Calls Tryz.prog 189 #[.pointer (some ⟨g, 0, none⟩), .int .i64 3, .slice Aw 2 cw] w (GP g P main F Aw cw w (lineG M (M.wait[0]?.getD 0) (M.wait[1]?.getD 0))) := by
  have HRW := Lib.hid h
  obtain ⟨ρ, Ap, cp, Ai, ci, Aa, ca, Al, cl, h⟩ := h
  have c5 := h.rc.c 5 _ rfl
  have c6 := h.rc.c 6 _ rfl
  have c7 := h.rc.c 7 _ rfl
  have hlt := h.rc.lt
  have hx := hok.x
  have hy := hok.y
  have hl3 := (mayB_from hok.may).2
  have hlc := h.lc
  have hsl := h.rr.hl
  have hws := own_sl h.rr.hw
  rw [hm] at hws
  obtain ⟨bw, ow, rfl, hbw, hcw⟩ := hws.two (by omega)
  have HOK := Lib.hid hok
  have hvb := VB.of hok.wv
  clear h hok hws
  have d0 := hcw 0 (by omega)
  rw [Nat.add_zero] at d0
  have b0 := hvb 0
  obtain ⟨a, ha⟩ : ∃ z, M.wait[0]?.getD 0 = z := ⟨_, rfl⟩
  rw [ha] at d0 b0 ⊢
  have d1 := hcw 1 (by omega)
  have b1 := hvb 1
  obtain ⟨b, hb⟩ : ∃ z, M.wait[1]?.getD 0 = z := ⟨_, rfl⟩
  rw [hb] at d1 b1 ⊢
  have HC := Lib.hid (fun q => (line_any40 a b (HRW.out.below (bdrewN (Below.refl w.heap.size w) q)) HOK.out b0 b1))
  obtain ⟨R, hR⟩ : ∃ R, lineG M a b = R := ⟨_, rfl⟩
  rw [hR] at HC ⊢
  clear hcw hvb hR hm ha hb
  go_enter Tryz.func189, Tryz.ntmps189
  go_wp2_with fail
  refine wp_region_cut (u := .pointer (some ⟨g, 0, none⟩)) 6 (by kernel_rfl) rfl (by simp only [List.take_succ_cons, List.take_zero]; rfl) (by simp only [List.drop_succ_cons, List.drop_zero]; rfl) (by kernel_rfl) (by kernel_rfl) (by kernel_rfl) (by kernel_rfl) (by kernel_rfl) (by kernel_rfl) (fun _ _ h => by cases h.1) (fun _ => rfl) ?_
  try simp only [Act.put, List.setIfInBounds_toArray, List.set_cons_zero, List.set_cons_succ]
  repeat (go_big_quiet_step (fail))
  refine wpQuiet_nil ?_
  intro _ hw'
  obtain ⟨nq, rfl⟩ := hw'
  go_wp2_with fail
  refine (HC.out nq).mono ?_; rintro e w2 ⟨rfl, hb2, hr2⟩
  go_wp2_with fail
  refine NoPanic.normal ?_
  go_wp2_with fail
  go_end0
  exact GP.drew hlt (bdrewN (Below.refl _ _) nq) ⟨rfl, hb2, hr2⟩
set_option maxRecDepth 100000 in
set_option maxHeartbeats 1000000 in
theorem draw5 (h : RW w g P main F M 0 Aw cw) (hok : GOK M) (hm : M.wait.length = 1) :
    Calls Tryz.prog 189 #[.pointer (some ⟨g, 0, none⟩), .int .i64 5, .slice Aw 1 cw] w (GP g P main F Aw cw w (lineG M (M.wait[0]?.getD 0) 0)) := by
  have HRW := Lib.hid h
  obtain ⟨ρ, Ap, cp, Ai, ci, Aa, ca, Al, cl, h⟩ := h
  have c5 := h.rc.c 5 _ rfl
  have c6 := h.rc.c 6 _ rfl
  have c7 := h.rc.c 7 _ rfl
  have hlt := h.rc.lt
  have hx := hok.x
  have hy := hok.y
  have hl3 := (mayB_from hok.may).2
  have hlc := h.lc
  have hsl := h.rr.hl
  have hws := own_sl h.rr.hw
  rw [hm] at hws
  obtain ⟨bw, ow, rfl, hbw, hcw⟩ := hws.two (by omega)
  have HOK := Lib.hid hok
  have hvb := VB.of hok.wv
  clear h hok hws
  have d0 := hcw 0 (by omega)
  rw [Nat.add_zero] at d0
  have b0 := hvb 0
  obtain ⟨a, ha⟩ : ∃ z, M.wait[0]?.getD 0 = z := ⟨_, rfl⟩
  rw [ha] at d0 b0 ⊢
  have HC := Lib.hid (line_any40 a 0 HRW.out HOK.out b0 (by omega))
  obtain ⟨R, hR⟩ : ∃ R, lineG M a 0 = R := ⟨_, rfl⟩
  rw [hR] at HC ⊢
  clear hcw hvb hR hm ha
  go_enter Tryz.func189, Tryz.ntmps189
  go_wp2_with fail
  refine HC.out.mono ?_; rintro e w2 ⟨rfl, hb2, hr2⟩
  go_wp2_with fail
  go_end0
  exact ⟨rfl, hb2, hr2⟩
set_option maxRecDepth 100000 in
set_option maxHeartbeats 1000000 in
theorem draw6 (h : RW w g P main F M 0 Aw cw) (hok : GOK M) (hm : M.wait.length = 1) :
    Calls Tryz.prog 189 #[.pointer (some ⟨g, 0, none⟩), .int .i64 6, .slice Aw 1 cw] w (GP g P main F Aw cw w (lineG M 0 (M.wait[0]?.getD 0))) := by
  have HRW := Lib.hid h
  obtain ⟨ρ, Ap, cp, Ai, ci, Aa, ca, Al, cl, h⟩ := h
  have c5 := h.rc.c 5 _ rfl
  have c6 := h.rc.c 6 _ rfl
  have c7 := h.rc.c 7 _ rfl
  have hlt := h.rc.lt
  have hx := hok.x
  have hy := hok.y
  have hl3 := (mayB_from hok.may).2
  have hlc := h.lc
  have hsl := h.rr.hl
  have hws := own_sl h.rr.hw
  rw [hm] at hws
  obtain ⟨bw, ow, rfl, hbw, hcw⟩ := hws.two (by omega)
  have HOK := Lib.hid hok
  have hvb := VB.of hok.wv
  clear h hok hws
  have d0 := hcw 0 (by omega)
  rw [Nat.add_zero] at d0
  have b0 := hvb 0
  obtain ⟨a, ha⟩ : ∃ z, M.wait[0]?.getD 0 = z := ⟨_, rfl⟩
  rw [ha] at d0 b0 ⊢
  have HC := Lib.hid (line_any40 0 a HRW.out HOK.out (by omega) b0)
  obtain ⟨R, hR⟩ : ∃ R, lineG M 0 a = R := ⟨_, rfl⟩
  rw [hR] at HC ⊢
  clear hcw hvb hR hm ha
  go_enter Tryz.func189, Tryz.ntmps189
  go_wp2_with fail
  refine HC.out.mono ?_; rintro e w2 ⟨rfl, hb2, hr2⟩
  go_wp2_with fail
  go_end0
  exact ⟨rfl, hb2, hr2⟩
set_option maxRecDepth 100000 in
set_option maxHeartbeats 1000000 in
theorem draw4 (h : RW w g P main F M 0 Aw cw) (hok : GOK M) (hm : M.wait.length = 4) :
    Calls Tryz.prog 189 #[.pointer (some ⟨g, 0, none⟩), .int .i64 4, .slice Aw 4 cw] w (GP g P main F Aw cw w (bowG M (M.wait[0]?.getD 0) (M.wait[1]?.getD 0) (M.wait[2]?.getD 0) (M.wait[3]?.getD 0))) := by
  have HRW := Lib.hid h
  obtain ⟨ρ, Ap, cp, Ai, ci, Aa, ca, Al, cl, h⟩ := h
  have c5 := h.rc.c 5 _ rfl
  have c6 := h.rc.c 6 _ rfl
  have c7 := h.rc.c 7 _ rfl
  have hlt := h.rc.lt
  have hx := hok.x
  have hy := hok.y
  have hl3 := (mayB_from hok.may).2
  have hlc := h.lc
  have hsl := h.rr.hl
  have hws := own_sl h.rr.hw
  rw [hm] at hws
  obtain ⟨bw, ow, rfl, hbw, hcw⟩ := hws.two (by omega)
  have HOK := Lib.hid hok
  have hvb := VB.of hok.wv
  clear h hok hws
  have d0 := hcw 0 (by omega)
  rw [Nat.add_zero] at d0
  have b0 := hvb 0
  obtain ⟨a, ha⟩ : ∃ z, M.wait[0]?.getD 0 = z := ⟨_, rfl⟩
  rw [ha] at d0 b0 ⊢
  have d1 := hcw 1 (by omega)
  have b1 := hvb 1
  obtain ⟨b, hb⟩ : ∃ z, M.wait[1]?.getD 0 = z := ⟨_, rfl⟩
  rw [hb] at d1 b1 ⊢
  have d2 := hcw 2 (by omega)
  have b2 := hvb 2
  obtain ⟨c, hc⟩ : ∃ z, M.wait[2]?.getD 0 = z := ⟨_, rfl⟩
  rw [hc] at d2 b2 ⊢
  have d3 := hcw 3 (by omega)
  have b3 := hvb 3
  obtain ⟨d, hd⟩ : ∃ z, M.wait[3]?.getD 0 = z := ⟨_, rfl⟩
  rw [hd] at d3 b3 ⊢
  obtain ⟨⟨L, er⟩, hE⟩ : ∃ E, onL M.l ⟨3, M.x + c, M.y + d, M.x + a, M.y + b⟩ = E := ⟨_, rfl⟩
  have hR : bowG M a b c d = if er = 0 then .ok { M with l := L, x := M.x + c, y := M.y + d } else .bad er := by
    unfold bowG; rw [takeG_on M _ (.inl rfl), hE]
  obtain ⟨R, hRR⟩ : ∃ R, bowG M a b c d = R := ⟨_, rfl⟩
  rw [hRR] at hR ⊢
  have HR := Lib.hid hR
  have HE := Lib.hid hE
  have wr1 : IntKind.i64.wrap (M.x + a) = M.x + a := IntWalk.i64_in _ (by omega)
  have wr2 : IntKind.i64.wrap (M.y + b) = M.y + b := IntWalk.i64_in _ (by omega)
  have wr3 : IntKind.i64.wrap (M.x + c) = M.x + c := IntWalk.i64_in _ (by omega)
  have wr4 : IntKind.i64.wrap (M.y + d) = M.y + d := IntWalk.i64_in _ (by omega)
  have HM := Lib.hid hm
  clear hRR hcw hvb hR hE hm ha hb hc hd
  go_enter Tryz.func189, Tryz.ntmps189
  go_wp2_with fail
  go_quiet (fail)
  have B0 : Below w.heap.size w (w.drewN nq) := bdrewN (Below.refl _ _) _
  obtain ⟨w3, hw3⟩ : ∃ w3 : World, w3 = w.drewN nq := ⟨_, rfl⟩
  rw [← hw3] at B0 ⊢
  replace c5 := (later_cell B0 hlt).trans c5
  replace c6 := (later_cell B0 hlt).trans c6
  replace c7 := (later_cell B0 hlt).trans c7
  replace d0 := (later_cell B0 hbw).trans d0
  replace d1 := (later_cell B0 hbw).trans d1
  clear hw3 d2 d3
  go_wp2_with fail
  refine wp_region_cut (u := .pointer (some ⟨g, 0, none⟩)) 22 (by kernel_rfl) rfl (by simp only [List.take_succ_cons, List.take_zero]; rfl) (by simp only [List.drop_succ_cons, List.drop_zero]; rfl) (by kernel_rfl) (by kernel_rfl) (by kernel_rfl) (by kernel_rfl) (by kernel_rfl) (by kernel_rfl) (fun _ _ h => by cases h.1) (fun _ => rfl) ?_
  try simp only [Act.put, List.setIfInBounds_toArray, List.set_cons_zero, List.set_cons_succ]
  repeat (go_big_quiet_step (fail))
  refine wpQuiet_nil ?_
  intro _ hw'
  obtain ⟨nq, rfl⟩ := hw'
  have B1 : Below w.heap.size w (w3.drewN nq) := bdrewN B0 nq
  go_wp2_with fail
  refine (ref_Add_any Al M.l.length cl M.l ⟨3, M.x + c, M.y + d, M.x + a, M.y + b⟩ (L, er) _ (by omega) (hsl.below B1) HE.out).mono ?_; rintro e w1 ⟨A1, c1, rfl, hown1, hb1⟩
  have hB1 : Below w.heap.size w w1 := btr B1 hb1
  have HP := Lib.hid (put_any40 (w0 := w) (w := w1) L er (M.x + c) (M.y + d) A1 L.length c1 HRW.out hB1 (own_sl hown1) rfl (own_cap hown1) (fun b off e => by have h1 := own_apart hown1 b off e; have h2 := B1.size; omega))
  rw [← HR.out] at HP
  clear hown1 hb1 hsl c5 c6 c7 d0 d1
  go_wp2_with fail
  refine NoPanic.normal ?_
  go_wp2_with fail
  refine HP.out.mono ?_; rintro e w2 ⟨rfl, hb2, hr2⟩
  go_wp2_with fail
  go_end0
  exact GP.drew hlt hB1 ⟨rfl, hb2, hr2⟩
set_option maxRecDepth 100000 in
set_option maxHeartbeats 1000000 in
theorem draw7 (v : Value) (h : RW w g P main F M 0 Aw cw) (hok : GOK M) :
    Calls Tryz.prog 189 #[.pointer (some ⟨g, 0, none⟩), .int .i64 7, v] w (GP g P main F Aw cw w (shutG M)) := by
  have HRW := Lib.hid h
  obtain ⟨ρ, Ap, cp, Ai, ci, Aa, ca, Al, cl, h⟩ := h
  have c5 := h.rc.c 5 _ rfl
  have c6 := h.rc.c 6 _ rfl
  have c7 := h.rc.c 7 _ rfl
  have hlt := h.rc.lt
  have hl3 := (mayB_from hok.may).2
  have hsl := h.rr.hl
  clear h hok
  obtain ⟨⟨L, er⟩, hE⟩ : ∃ E, shutL M.l = E := ⟨_, rfl⟩
  obtain ⟨⟨px, py, ok⟩, hp⟩ : ∃ p, ptL L = p := ⟨_, rfl⟩
  have hR : shutG M = if er = 0 then .ok { M with l := L, x := if ok then px else M.x, y := if ok then py else M.y } else .bad er := by
    unfold shutG takeG; rw [hE]; simp only [hp]
  obtain ⟨R, hRR⟩ : ∃ R, shutG M = R := ⟨_, rfl⟩
  rw [hRR] at hR ⊢
  have HR := Lib.hid hR
  have HE := Lib.hid hE
  have HP := Lib.hid hp
  have hL3 : L.length ≤ 300 := by
    have : (shutL M.l).1.length ≤ 300 := by
      unfold shutL; split
      · simp
      · split <;> exact longL_len _ _
    rw [hE] at this; exact this
  clear hRR hR hE hp
  go_enter Tryz.func189, Tryz.ntmps189
  go_wp2_with fail
  refine (ref_Shut_any Al M.l.length cl M.l (L, er) _ (by omega) hsl HE.out).mono ?_; rintro e w1 ⟨A1, c1, rfl, hown1, hb1⟩
  have hs1 := own_sl hown1
  simp only at hs1
  clear c7 hsl
  go_wp2_with fail
  refine (ref_Point_any A1 L.length c1 L (px, py, ok) _ (by omega) hs1 HP.out).mono ?_; rintro e w2 ⟨rfl, hb2⟩
  have hB2 := btr hb1 hb2
  replace c5 := (later_cell hB2 hlt).trans c5
  replace c6 := (later_cell hB2 hlt).trans c6
  have hs2 := hs1.below hb2
  have HQ := Lib.hid (fun q => put_any40 (w0 := w) (w := w2.drewN q) L er (if ok then px else M.x) (if ok then py else M.y) A1 L.length c1 HRW.out (bdrewN hB2 q) (hs2.below (bdrewN (Below.refl _ _) q)) rfl (own_cap hown1) (fun b off e => own_apart hown1 b off e))
  rw [← HR.out] at HQ
  clear hown1 hb1 hb2 hs1 hs2
  cases ok
  · simp only [Bool.false_eq_true, if_false] at HQ
    go_wp2_with fail
    go_quiet (fail)
    go_wp2_with fail
    refine (HQ.out nq).mono ?_; rintro e w3 ⟨rfl, hb3, hr3⟩
    go_wp2_with fail
    go_end0
    exact GP.drew hlt (bdrewN hB2 nq) ⟨rfl, hb3, hr3⟩
  · simp only [if_true] at HQ
    go_wp2_with fail
    refine (HQ.out 0).mono ?_; rintro e w3 ⟨rfl, hb3, hr3⟩
    go_wp2_with fail
    go_end0
    exact GP.drew hlt (bdrewN hB2 0) ⟨rfl, hb3, hr3⟩
theorem takeG_keeps {M M' : GM} {r : List Sg × Int} (h : takeG M r = .ok M') : M'.wait = M.wait ∧ M'.ops = M.ops ∧ M'.over = M.over := by
  unfold takeG at h
  split at h
  · cases h; exact ⟨rfl, rfl, rfl⟩
  · cases h
theorem lineG_keeps {M M' : GM} {a b : Int} (hok : GOK M) (h : lineG M a b = .ok M') : GOK M' ∧ M'.wait = M.wait := by
  unfold lineG at h
  exact ⟨hok.take (fun h0 => on_may (.inr ⟨rfl, rfl, rfl⟩) h0) h, (takeG_keeps h).1⟩
set_option maxRecDepth 100000 in
set_option maxHeartbeats 1000000 in
theorem draw11 (m : Nat) (h : RW w g P main F M 0 Aw cw) (hok : GOK M) (hm : M.wait.length = m) (hm0 : 0 < m) (hm2 : m % 2 = 0) :
    Calls Tryz.prog 189 #[.pointer (some ⟨g, 0, none⟩), .int .i64 11, .slice Aw m cw] w (GP g P main F Aw cw w (linesG M M.wait)) := by
  have h24 := hok.w24
  have hvb := VB.of hok.wv
  rw [hm] at h24
  obtain ⟨R, hR⟩ : ∃ R, linesG M M.wait = R := ⟨_, rfl⟩
  rw [hR]
  have HR := Lib.hid hR
  have HM := Lib.hid hm
  obtain ⟨vs, hvs⟩ : ∃ vs, M.wait = vs := ⟨_, rfl⟩
  have hlt : g < w.heap.size := by obtain ⟨_, _, _, _, _, _, _, _, _, h1⟩ := h; exact h1.rc.lt
  have hvl : vs.length = m := by rw [← hvs]; exact hm
  rw [hvs] at hvb HR
  clear hR hm
  go_enter Tryz.func189, Tryz.ntmps189
  go_wp2_with fail
  go_loopw [17] (fun s17 wr => ∃ (k : Nat) (M' : GM) (er : Int), 2 * k ≤ m ∧ s17 = .int .i64 (2 * (k : Int)) ∧ Below g w wr ∧ RW wr g P main F M' er Aw cw ∧ Hid (er = 0 → M'.wait = vs ∧ GOK M' ∧ linesG M' (vs.drop (2 * k)) = R) ∧ Hid (er ≠ 0 → R = .bad er)) (fun s17 _ => m - (intOf s17).toNat)
  case atStart => exact ⟨0, M, 0, by omega, by simp, Below.refl _ _, h, Lib.hid (fun _ => ⟨hvs, hok, HR.out⟩), Lib.hid (fun h => absurd rfl h)⟩
  case round =>
    obtain ⟨k, M', er, hk, rfl, hB, hRW, H1, H2⟩ := hrel
    have HRW := Lib.hid hRW
    obtain ⟨ρ, Ap, cp, Ai, ci, Aa, ca, Al, cl, hM⟩ := hRW
    have c12 := hM.rc.c 12 _ rfl
    have hltr := hM.rc.lt
    have hws := own_sl hM.rr.hw
    clear hM h
    have hgr : g ≤ wr.heap.size := Nat.le_of_lt hltr
    by_cases he : er = 0
    · subst he
      obtain ⟨hw', hok', hl'⟩ := H1.out rfl
      rw [hw', hvl] at hws
      by_cases hlk : 2 * k + 1 < m
      · obtain ⟨bw, ow, hA, hbw, hcw⟩ := hws.two hm0
        have v0 := hcw (2 * k) (by omega)
        have v1 := hcw (2 * k + 1) hlk
        have h1 := hvb (2 * k)
        have h2 := hvb (2 * k + 1)
        have hst := linesG_step (M := M') (v := vs) (i := 2 * k) (by omega)
        obtain ⟨dx, hdx⟩ : ∃ dx, vs[2 * k]?.getD 0 = dx := ⟨_, rfl⟩
        obtain ⟨dy, hdy⟩ : ∃ dy, vs[2 * k + 1]?.getD 0 = dy := ⟨_, rfl⟩
        rw [hdx] at v0 h1 hst
        rw [hdy] at v1 h2 hst
        obtain ⟨i, hi⟩ : ∃ i : Nat, 2 * k = i := ⟨_, rfl⟩
        have hiI : 2 * (k : Int) = (i : Int) := by omega
        rw [hi] at v0 v1 hst hlk
        rw [hiI]
        rw [hi] at hl'
        have HST := Lib.hid (hl'.symm.trans hst)
        have HOK' := Lib.hid hok'
        have HC := Lib.hid (fun q => line_any40 dx dy (HRW.out.below (bdrewN (Below.refl wr.heap.size wr) q)) hok' h1 h2)
        have b1 : (i : Int) < (m : Int) := by omega
        have b2 : (i : Int) + 1 < (m : Int) := by omega
        clear hdx hdy hst hws hcw hok' hl' H1 H2
        subst hA
        go_wp2_with fail
        refine wp_region_cut (u := .pointer (some ⟨g, 0, none⟩)) 9 (by kernel_rfl) rfl (by simp only [List.take_succ_cons, List.take_zero]; rfl) (by simp only [List.drop_succ_cons, List.drop_zero]; rfl) (by kernel_rfl) (by kernel_rfl) (by kernel_rfl) (by kernel_rfl) (by kernel_rfl) (by kernel_rfl) (fun _ _ h => by cases h.1) (fun _ => rfl) ?_
        try simp only [Act.put, List.setIfInBounds_toArray, List.set_cons_zero, List.set_cons_succ]
        repeat (go_big_quiet_step (fail))
        refine wpQuiet_nil ?_
        intro _ hw'
        obtain ⟨nq, rfl⟩ := hw'
        go_wp2_with fail
        refine (HC.out nq).mono ?_; rintro e w2 ⟨rfl, hb2, hr2⟩
        have hBB := hB.trans (((bdrewN (Below.refl wr.heap.size wr) nq).mono hgr).trans hb2)
        go_wp2_with fail
        refine NoPanic.normal ?_
        cases hr : lineG M' dx dy with
        | bad er =>
          rw [hr] at hr2
          obtain ⟨hz, M2, hM2⟩ := hr2
          have hz0 : ¬ er = 0 := hz
          go_wp2_with fail
          go_roundw
          case rel => exact ⟨k + 1, M2, er, by omega, by go_num, hBB, hM2, Lib.hid (fun h => absurd h hz), Lib.hid (fun _ => by rw [HST.out, hr])⟩
          case measure => simp [intOf]; omega
        | ok M2 =>
          rw [hr] at hr2
          have hk2 := lineG_keeps HOK'.out hr
          go_wp2_with fail
          go_roundw
          case rel => exact ⟨k + 1, M2, 0, by omega, by go_num, hBB, hr2, Lib.hid (fun _ => ⟨hk2.2.trans hw', hk2.1, by rw [HST.out, hr, show 2 * (k + 1) = i + 2 by omega]⟩), Lib.hid (fun h => absurd rfl h)⟩
          case measure => simp [intOf]; omega
      · have hkm : 2 * k = m := by omega
        have hR : R = .ok M' := by rw [← hl', List.drop_of_length_le (by omega)]; rfl
        have HR2 := Lib.hid hR
        have hd : decide (2 * (k : Int) + 1 < (m : Int)) = false := by simp; omega
        have hd2 : ¬ (2 * (k : Int) + 1 < (m : Int)) := by omega
        clear hR hws hl' H1 H2
        go_wp2_with fail
        go_end0
        exact ⟨rfl, hB, by rw [HR2.out]; exact HRW.out⟩
    · have HR2 := Lib.hid (H2.out he)
      have he0 : (er == 0) = false := by simp [he]
      clear hws H1 H2
      go_wp2_with fail
      all_goals
        go_end0
        exact ⟨rfl, hB, by rw [HR2.out]; exact ⟨he, M', HRW.out⟩⟩
end
end Go.Proofs.YtdfkbbcoolgfiaaGreat

namespace Go.Proofs.YtdfkbbcoolgfiaaGreat
open Go.RowKit Go.BigFrame

theorem bel_drew {b : Nat} {w w' : World} (h : Below b w w') : Below b w w'.drew := ⟨h.os, h.tape, h.output, h.size, h.block⟩
section
variable {w w' w0 : World} {g : Nat} {P : List ByteArray} {main : ByteArray} {F F0 : List (Int × Nat)} {M : GM} {er : Int}
theorem RAt.pop {ρ : Nat → Nat} {Ap Ai Aa Al : Option Addr} {cp ci ca cw cl n kb : Nat} (h : RAt w g P main F M er ρ Ap cp Ai ci Aa ca (some ⟨kb, 0, none⟩) cw Al cl) (hn : M.wait.length = n + 1) :
    RM (w.setCell ⟨g, 4, none⟩ (.slice (some ⟨kb, 0, none⟩) n cw)) g P main F { M with wait := M.wait.dropLast } er := by
  have hld : M.wait.dropLast.length = n := by rw [List.length_dropLast]; omega
  have h1 := h.rc.set 4 (.slice (some ⟨kb, 0, none⟩) n cw) (by simp [rcv])
  have hw0 := h.rr.hw
  rw [hn] at hw0
  have hrr := h.rr
  rw [hn] at hrr
  have h2 := hrr.popW (v' := .slice (some ⟨kb, 0, none⟩) n cw) (xs' := M.wait.dropLast) (by rw [ints_take, hn, hld]; exact own_pop hw0) (.inl rfl)
  refine ⟨ρ, Ap, cp, Ai, ci, Aa, ca, some ⟨kb, 0, none⟩, cw, Al, cl, ?_, ?_, h.lc⟩
  · simp only [hld]; exact h1
  · simp only [hld]; exact h2.own1 set_own
theorem lit_sl {W : World} {x : Nat} {q : Int} (h : W.cell? ⟨x, 0, none⟩ = some (.int .i64 q)) (hx : x < W.heap.size) : Sl W 1 (some ⟨x, 0, none⟩) 1 (ints [q]) :=
  ⟨by simp [ints], fun _ => ⟨x, 0, rfl, hx, fun j u hu => by
    cases j with
    | zero => simp [ints] at hu; subst hu; exact h
    | succ j => simp [ints] at hu⟩⟩
theorem RR.appI {ρ : Nat → Nat} {fi fa wt : List Int} {l : List Sg} {vi va vw : Value} {Ap Al : Option Addr} (h : RR w g ρ P fi fa wt l vi va vw Ap Al) {k : Nat} {q : Int} {v' : Value} (hk : fi.length = k) (hg : w.grownBy w' vi.ownBlock)
    (ho : w'.ownsRow (g + 1) 3 1 v' (k + 1) (ints fi ++ ints [q])) (hat : v'.ownBlock = vi.ownBlock ∨ v'.ownBlock = some w.heap.size) : ∃ ρ', RR w' g ρ' P (fi ++ [q]) fa wt l v' va vw Ap Al :=
  h.rowI hg (by rw [List.length_append, hk, ints_snoc]; exact ho) hat
theorem RR.appA {ρ : Nat → Nat} {fi fa wt : List Int} {l : List Sg} {vi va vw : Value} {Ap Al : Option Addr} (h : RR w g ρ P fi fa wt l vi va vw Ap Al) {k : Nat} {q : Int} {v' : Value} (hk : fa.length = k) (hg : w.grownBy w' va.ownBlock)
    (ho : w'.ownsRow (g + 1) 3 1 v' (k + 1) (ints fa ++ ints [q])) (hat : v'.ownBlock = va.ownBlock ∨ v'.ownBlock = some w.heap.size) : ∃ ρ', RR w' g ρ' P fi (fa ++ [q]) wt l vi v' vw Ap Al :=
  h.rowA hg (by rw [List.length_append, hk, ints_snoc]; exact ho) hat
/-- A literal's cell. -/
structure RLit (w1 W : World) (x : Nat) (q : Int) : Prop where
  c : W.cell? ⟨x, 0, none⟩ = some (.int .i64 q)
  lt : x < W.heap.size
  le : w1.heap.size ≤ x
theorem RLit.new {w1 W : World} {q : Int} (h : w1.heap.size ≤ W.heap.size) : RLit w1 (W.alloc (.cells #[.int .i64 q] 3)) W.heap.size q := ⟨new_cell _ 0, by simp, h⟩
theorem RLit.new2 {w1 : World} {q : Int} (o : Obj) : RLit w1 ((w1.alloc o).alloc (.cells #[.int .i64 q] 3)) (w1.heap.size + 1) q := by
  have h : RLit w1 ((w1.alloc o).alloc (.cells #[.int .i64 q] 3)) (w1.alloc o).heap.size q := RLit.new (by simp)
  rw [World.size_alloc] at h
  exact h
theorem RLit.al {w1 W : World} {x : Nat} {q : Int} (h : RLit w1 W x q) (o : Obj) : RLit w1 (W.alloc o) x q := ⟨(later_cell (bal (Below.refl _ _) _) h.lt).trans h.c, by have := h.lt; simp; omega, h.le⟩
theorem RLit.dr {w1 W : World} {x : Nat} {q : Int} (h : RLit w1 W x q) : RLit w1 W.drew x q := ⟨h.c, h.lt, h.le⟩
theorem RLit.st {w1 W : World} {x g j : Nat} {q : Int} {u : Value} (h : RLit w1 W x q) (hg : g < w1.heap.size) : RLit w1 (W.setCell ⟨g, j, none⟩ u) x q :=
  ⟨by rw [World.cell?_setCell_other _ _ _ _ (by intro e; injection e; have := h.le; omega)]; exact h.c, by have := h.lt; simpa [World.setCell] using this, h.le⟩
theorem RLit.sl {w1 W : World} {x : Nat} {q : Int} (h : RLit w1 W x q) : Sl W 1 (some ⟨x, 0, none⟩) 1 (ints [q]) := lit_sl h.c h.lt
/-- What an append onto a row of the machine's own leaves of a world. -/
theorem RLit.app {w1 W W' : World} {x : Nat} {q : Int} {v : Value} (h : RLit w1 W x q) (hg : W.grownBy W' v.ownBlock) (hv : ∀ k, v.ownBlock = some k → k < w1.heap.size) : RLit w1 W' x q :=
  ⟨(World.cell?_of_block (a := ⟨x, 0, none⟩) (hg.block x h.lt (fun e => by have := hv x e.symm; have := h.le; omega))).trans h.c, Nat.lt_of_lt_of_le h.lt hg.size, h.le⟩
/-- A world of the walk: the machine in it, its cells told. -/
structure Wd (w1 W : World) (g : Nat) (C : List Value) (P : List ByteArray) (fi fa wt : List Int) (l : List Sg) (vi va vw : Value) (Ap Al : Option Addr) : Prop where
  rc : RC W g C
  rr : ∃ ρ, RR W g ρ P fi fa wt l vi va vw Ap Al
  b : Below g w1 W
section
variable {w1 W W' : World} {C : List Value} {fi fa wt : List Int} {l : List Sg} {vi va vw : Value} {Ap Al : Option Addr}
theorem Wd.al (h : Wd w1 W g C P fi fa wt l vi va vw Ap Al) (o : Obj) : Wd w1 (W.alloc o) g C P fi fa wt l vi va vw Ap Al :=
  ⟨h.rc.below (bal (Below.refl _ _) _), by obtain ⟨ρ, q⟩ := h.rr; exact ⟨ρ, q.below (bal (Below.refl _ _) _)⟩, h.b.trans ((bal (Below.refl _ _) _).mono (Nat.le_of_lt h.rc.lt))⟩
theorem Wd.dr (h : Wd w1 W g C P fi fa wt l vi va vw Ap Al) : Wd w1 W.drew g C P fi fa wt l vi va vw Ap Al :=
  ⟨h.rc.below (bdrew (Below.refl _ _)), by obtain ⟨ρ, q⟩ := h.rr; exact ⟨ρ, q.below (bdrew (Below.refl _ _))⟩, bel_drew h.b⟩
theorem Wd.st (h : Wd w1 W g C P fi fa wt l vi va vw Ap Al) (j : Nat) (u : Value) (hj : j < C.length) : Wd w1 (W.setCell ⟨g, j, none⟩ u) g (C.set j u) P fi fa wt l vi va vw Ap Al :=
  ⟨h.rc.set j u hj, by obtain ⟨ρ, q⟩ := h.rr; exact ⟨ρ, q.own1 set_own⟩, h.b.setCell (p := ⟨g, j, none⟩) (Nat.le_refl g) _⟩
theorem Wd.appI (h : Wd w1 W g C P fi fa wt l vi va vw Ap Al) {k : Nat} {q : Int} {v' : Value} (hk : fi.length = k) (hg : W.grownBy W' vi.ownBlock)
    (ho : W'.ownsRow (g + 1) 3 1 v' (k + 1) (ints fi ++ ints [q])) (hat : v'.ownBlock = vi.ownBlock ∨ v'.ownBlock = some W.heap.size) : Wd w1 W' g C P (fi ++ [q]) fa wt l v' va vw Ap Al := by
  obtain ⟨ρ, h2⟩ := h.rr
  have hgl : ∀ k, vi.ownBlock = some k → g < k := fun k hk => by have := (h2.hi.lt k hk).1; omega
  exact ⟨h.rc.off hg hgl, h2.appI hk hg ho hat, h.b.grown hg (Nat.le_of_lt h.rc.lt) (fun k hk => Nat.le_of_lt (hgl k hk))⟩
theorem Wd.appA (h : Wd w1 W g C P fi fa wt l vi va vw Ap Al) {k : Nat} {q : Int} {v' : Value} (hk : fa.length = k) (hg : W.grownBy W' va.ownBlock)
    (ho : W'.ownsRow (g + 1) 3 1 v' (k + 1) (ints fa ++ ints [q])) (hat : v'.ownBlock = va.ownBlock ∨ v'.ownBlock = some W.heap.size) : Wd w1 W' g C P fi (fa ++ [q]) wt l vi v' vw Ap Al := by
  obtain ⟨ρ, h2⟩ := h.rr
  have hgl : ∀ k, va.ownBlock = some k → g < k := fun k hk => by have := (h2.ha.lt k hk).1; omega
  exact ⟨h.rc.off hg hgl, h2.appA hk hg ho hat, h.b.grown hg (Nat.le_of_lt h.rc.lt) (fun k hk => Nat.le_of_lt (hgl k hk))⟩
theorem Wd.hi (h : Wd w1 W g C P fi fa wt l vi va vw Ap Al) {k : Nat} (hk : fi.length = k) : W.ownsRow (g + 1) 3 1 vi k (ints fi) := by obtain ⟨_, q⟩ := h.rr; rw [← hk]; exact q.hi
theorem Wd.ha (h : Wd w1 W g C P fi fa wt l vi va vw Ap Al) {k : Nat} (hk : fa.length = k) : W.ownsRow (g + 1) 3 1 va k (ints fa) := by obtain ⟨_, q⟩ := h.rr; rw [← hk]; exact q.ha
end
/-- A frame more: both rows have grown. -/
theorem RAt.framed {ρ ρ' : Nat → Nat} {Ap Ai Aa Aw Al Ai' Aa' : Option Addr} {cp ci ca cw cl ci' ca' k : Nat} {q : Int} (h : RAt w g P main F M er ρ Ap cp Ai ci Aa ca Aw cw Al cl) (hk : F.length = k)
    (hr : RR w' g ρ' P (fsI F ++ [q]) (fsA F ++ [((0 : Nat) : Int)]) M.wait M.l (.slice Ai' (k + 1) ci') (.slice Aa' (k + 1) ca') (.slice Aw M.wait.length cw) Ap Al)
    (hc : RC w' g (rcv (.slice Ap P.length cp) main (.slice Ai F.length ci) (.slice Aa F.length ca) (.slice Aw M.wait.length cw) M (.slice Al M.l.length cl) er)) :
    RM ((w'.setCell ⟨g, 2, none⟩ (.slice Ai' (k + 1) ci')).setCell ⟨g, 3, none⟩ (.slice Aa' (k + 1) ca')) g P main (F ++ [(q, 0)]) M er ∧ RM ((w'.setCell ⟨g, 3, none⟩ (.slice Aa' (k + 1) ca')).setCell ⟨g, 2, none⟩ (.slice Ai' (k + 1) ci')) g P main (F ++ [(q, 0)]) M er := by
  have e1 : (F ++ [(q, 0)]).length = k + 1 := by rw [snoc_len, hk]
  constructor
  · refine ⟨ρ', Ap, cp, Ai', ci', Aa', ca', Aw, cw, Al, cl, ?_, ?_, h.lc⟩
    · rw [e1]; exact (hc.set 2 _ (by simp [rcv])).set 3 _ (by simp [rcv])
    · rw [e1, fsI_snoc, fsA_snoc]; exact (hr.own1 set_own).own1 set_own
  · refine ⟨ρ', Ap, cp, Ai', ci', Aa', ca', Aw, cw, Al, cl, ?_, ?_, h.lc⟩
    · rw [e1]; exact (hc.set 3 _ (by simp [rcv])).set 2 _ (by simp [rcv])
    · rw [e1, fsI_snoc, fsA_snoc]; exact (hr.own1 set_own).own1 set_own
theorem Wd.rm {w1 W : World} {C : List Value} {Ap Ai Aa Aw Al : Option Addr} {cp ci ca cw cl k : Nat} {q : Int}
    (h : Wd w1 W g C P (fsI F ++ [q]) (fsA F ++ [0]) M.wait M.l (.slice Ai (k + 1) ci) (.slice Aa (k + 1) ca) (.slice Aw M.wait.length cw) Ap Al)
    (hC : C = rcv (.slice Ap P.length cp) main (.slice Ai (k + 1) ci) (.slice Aa (k + 1) ca) (.slice Aw M.wait.length cw) M (.slice Al M.l.length cl) 0) (hk : F.length = k) (hlc : M.l.length ≤ cl) :
    RM W g P main (F ++ [(q, 0)]) M 0 := by
  subst hC
  obtain ⟨ρ, hr⟩ := h.rr
  have e1 : (F ++ [(q, 0)]).length = k + 1 := by rw [snoc_len, hk]
  refine ⟨ρ, Ap, cp, Ai, ci, Aa, ca, Aw, cw, Al, cl, ?_, ?_, hlc⟩
  · rw [e1]; exact h.rc
  · rw [e1, fsI_snoc, fsA_snoc]; exact hr
end
end Go.Proofs.YtdfkbbcoolgfiaaGreat

namespace Go.Proofs.YtdfkbbcoolgfiaaGreat
open Go.RowKit Go.BigFrame

section
variable {w w' w0 : World} {g : Nat} {P : List ByteArray} {main : ByteArray} {F F0 : List (Int × Nat)} {M : GM} {er : Int}
theorem ints_front (v : List Int) (z : Int) : ints v = (ints (v ++ [z])).take v.length := by
  rw [ints_snoc]
  have : v.length = (ints v).length := by simp [ints]
  rw [this]; simp
theorem RAt.unframed {ρ : Nat → Nat} {Ap Aw Al : Option Addr} {cp ci ca cw cl bi ba k : Nat} {i : Int} {a : Nat} (h : RAt w g P main (F0 ++ [(i, a)]) M er ρ Ap cp (some ⟨bi, 0, none⟩) ci (some ⟨ba, 0, none⟩) ca Aw cw Al cl) (hk : F0.length = k) :
    RM ((w.setCell ⟨g, 2, none⟩ (.slice (some ⟨bi, 0, none⟩) k ci)).setCell ⟨g, 3, none⟩ (.slice (some ⟨ba, 0, none⟩) k ca)) g P main F0 M er ∧ RM ((w.setCell ⟨g, 3, none⟩ (.slice (some ⟨ba, 0, none⟩) k ca)).setCell ⟨g, 2, none⟩ (.slice (some ⟨bi, 0, none⟩) k ci)) g P main F0 M er := by
  subst hk
  have hc := h.rc
  have hr := h.rr
  rw [snoc_len] at hc hr
  rw [fsI_snoc, fsA_snoc] at hr
  have hi := hr.hi
  have ha := hr.ha
  rw [List.length_append, fsI_len] at hi
  rw [List.length_append, fsA_len] at ha
  have oi : w.ownsRow (g + 1) 3 1 (.slice (some ⟨bi, 0, none⟩) F0.length ci) (fsI F0).length (ints (fsI F0)) := by
    rw [ints_front (fsI F0) i, fsI_len]; exact own_pop hi
  have oa : w.ownsRow (g + 1) 3 1 (.slice (some ⟨ba, 0, none⟩) F0.length ca) (fsA F0).length (ints (fsA F0)) := by
    rw [ints_front (fsA F0) (a : Int), fsA_len]; exact own_pop ha
  have h2 := (hr.popI oi (.inl rfl)).popA oa (.inl rfl)
  exact ⟨⟨ρ, Ap, cp, _, ci, _, ca, Aw, cw, Al, cl, (hc.set 2 _ (by simp [rcv])).set 3 _ (by simp [rcv]), (h2.own1 set_own).own1 set_own, h.lc⟩,
    ⟨ρ, Ap, cp, _, ci, _, ca, Aw, cw, Al, cl, (hc.set 3 _ (by simp [rcv])).set 2 _ (by simp [rcv]), (h2.own1 set_own).own1 set_own, h.lc⟩⟩
set_option maxRecDepth 100000 in
set_option maxHeartbeats 1000000 in
theorem back_none (i : Int) (a : Nat) (h : RM w g P main [(i, a)] M 0) :
    Calls Tryz.prog 187 #[.pointer (some ⟨g, 0, none⟩)] w fun e w' => e = .returned (.tuple #[]) ∧ Below g w w' ∧ RM w' g P main [(i, a)] M 3 := by
  have HRM := Lib.hid h
  obtain ⟨ρ, Ap, cp, Ai, ci, Aa, ca, Aw, cw, Al, cl, h⟩ := h
  have c2 := h.rc.c 2 _ rfl
  simp only [List.length_singleton] at c2
  clear h
  go_enter Tryz.func187, Tryz.ntmps187
  go_wp2_with fail
  refine (wrong_any 3 HRM.out).mono ?_; rintro e w1 ⟨rfl, hr, hb1⟩
  simp only [if_true] at hr
  go_wp2_with fail
  refine bodyPost_ret (results_none rfl _ _ _) rfl ?_
  exact ⟨rfl, hb1, hr⟩
set_option maxRecDepth 100000 in
set_option maxHeartbeats 1000000 in
theorem back_any40 (i : Int) (a : Nat) (h : RM w g P main (F0 ++ [(i, a)]) M 0) (h0 : 0 < F0.length) (hF : F0.length ≤ 10) :
    Calls Tryz.prog 187 #[.pointer (some ⟨g, 0, none⟩)] w fun e w' => e = .returned (.tuple #[]) ∧ Below g w w' ∧ RM w' g P main F0 M 0 := by
  have HRM := Lib.hid h
  obtain ⟨ρ, Ap, cp, Ai, ci, Aa, ca, Aw, cw, Al, cl, h⟩ := h
  obtain ⟨k, hk⟩ : ∃ k, F0.length = k := ⟨_, rfl⟩
  have c2 := h.rc.c 2 _ rfl
  have c3 := h.rc.c 3 _ rfl
  have f2 := h.rc.nf 2
  have f3 := h.rc.nf 3
  have hlt := h.rc.lt
  have hi := h.rr.hi
  have ha := h.rr.ha
  rw [fsI_len] at hi
  rw [fsA_len] at ha
  rw [snoc_len, hk] at c2 c3 hi ha
  rw [hk] at h0 hF
  obtain ⟨bi, rfl, hbi, _⟩ := own_some hi (by omega)
  obtain ⟨ba, rfl, hba, _⟩ := own_some ha (by omega)
  have hci := own_cap hi
  have hca := own_cap ha
  have HU := Lib.hid (fun q => (h.below (bdrewN (Below.refl w.heap.size w) q)).unframed hk)
  have hBD : ∀ q, Below g w (w.drewN q) := fun q => (bdrewN (Below.refl w.heap.size w) q).mono (Nat.le_of_lt hlt)
  have hk0 : ¬ k = 0 := by omega
  have hk1 : ((k : Int) == 0) = false := by simp; omega
  clear h hi ha HRM hk
  go_enter Tryz.func187, Tryz.ntmps187
  go_wp2_with fail
  go_region
  all_goals
    go_wp2_with fail
    go_end0
    refine ⟨rfl, ?_, ?_⟩
    · first
        | exact bel_drew (((Below.refl g w).setCell (p := ⟨g, 2, none⟩) (Nat.le_refl g) _).setCell (p := ⟨g, 3, none⟩) (Nat.le_refl g) _)
        | exact bel_drew (((Below.refl g w).setCell (p := ⟨g, 3, none⟩) (Nat.le_refl g) _).setCell (p := ⟨g, 2, none⟩) (Nat.le_refl g) _)
    · first
        | exact (HU.out 1).1
        | exact (HU.out 1).2
        | exact ((HU.out 0).1).below (bdrew (Below.refl _ _))
        | exact ((HU.out 0).2).below (bdrew (Below.refl _ _))
end
end Go.Proofs.YtdfkbbcoolgfiaaGreat
