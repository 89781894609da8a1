/- The reference's machine: an operator. -/
import Derived.Test.YtdfkbbcoolgfiaaGreatGRef7c
import Derived.Test.YtdfkbbcoolgfiaaGreatMG3
namespace Go.Proofs.YtdfkbbcoolgfiaaGreat
open Go.RowKit Go.BigFrame

def clrG : GR → GR
  | .bad e => .bad e
  | .ok M => .ok { M with wait := [] }
theorem takeG_clr (M : GM) (r : List Sg × Int) : takeG { M with wait := [] } r = clrG (takeG M r) := by
  unfold takeG; split <;> rfl
theorem lineG_clr (M : GM) (a b : Int) : lineG { M with wait := [] } a b = clrG (lineG M a b) := takeG_clr M _
theorem linesG_clr : ∀ (v : List Int) (M : GM), linesG { M with wait := [] } v = clrG (linesG M v)
  | [], M => rfl
  | [_], M => rfl
  | a :: b :: v, M => by
    simp only [linesG, lineG_clr]
    cases lineG M a b with
    | bad e => rfl
    | ok M' => exact linesG_clr v M'
theorem opG_clr (c : Nat) (M : GM) (v : List Int) : opG c { M with wait := [] } v = clrG (opG c M v) := by
  unfold opG
  split
  · unfold widthG; simp only; split
    · rfl
    · split <;> rfl
  split
  · exact takeG_clr M _
  split
  · exact linesG_clr v M
  split
  · exact takeG_clr M _
  split
  · exact lineG_clr M _ _
  split
  · exact lineG_clr M _ _
  split
  · exact takeG_clr M _
  · rfl
set_option linter.unusedSimpArgs false in
theorem draw_cnt {b : Nat} (hb : b < 32) (h8 : b ≠ 8) (h9 : b ≠ 9) (M : GM) : (cntE b M.wait.length ≠ 0 → drawG b M = .bad (cntE b M.wait.length)) ∧ (cntE b M.wait.length = 0 → drawG b M = drawnG (clrG (opG b M M.wait))) := by
  rw [← opG_clr]
  obtain ⟨m, hm⟩ : ∃ m, M.wait.length = m := ⟨_, rfl⟩
  unfold drawG
  rw [hm]
  rcases byte_cases hb with rfl | rfl | rfl | rfl | rfl | rfl | rfl | rfl | rfl | rfl | rfl | rfl | h12
  case inr.inr.inr.inr.inr.inr.inr.inr.inr.inr.inr.inr =>
    have ht : takesG b = none := by unfold takesG; rw [if_neg (by omega), if_neg (by omega), if_neg (by omega), if_neg (by omega), if_neg (by omega)]
    have hr : takesR b = -2 := by unfold takesR; rw [if_neg (by omega), if_neg (by omega), if_neg (by omega), if_neg (by omega), if_neg (by omega)]
    have hc : cntE b m = 3 := by unfold cntE; rw [if_pos hr]
    rw [ht, hc]
    exact ⟨fun _ => rfl, fun h => absurd h (by omega)⟩
  all_goals first | exact absurd rfl h8 | exact absurd rfl h9 | skip
  all_goals
    simp only [cntE, takesR, takesG]
    simp only [Nat.reduceEqDiff, or_false, or_true, false_or, true_or, if_true, if_false, reduceCtorEq, and_false, false_and, and_true, true_and]
    simp only [Int.reduceEq, Int.reduceNeg, Int.reduceLE, Int.reduceLT, if_false, false_and, true_and, false_or, or_false, true_or]
    repeat' split
    all_goals first
      | (constructor <;> intro h <;> first | rfl | omega)
      | exact ⟨fun _ => trivial, fun h => h.elim⟩

section
variable {w w' w0 : World} {g : Nat} {P : List ByteArray} {main : ByteArray} {F F0 : List (Int × Nat)} {M : GM} {er : Int}
theorem RM.step (h : RM w g P main F M 0) : RM (w.setCell ⟨g, 10, none⟩ (.int .i64 ((M.ops : Int) + 1))) g P main F { M with ops := M.ops + 1 } 0 := by
  obtain ⟨ρ, Ap, cp, Ai, ci, Aa, ca, Aw, cw, Al, cl, h⟩ := h
  exact ⟨ρ, Ap, cp, Ai, ci, Aa, ca, Aw, cw, Al, cl, h.put 10 _ { M with ops := M.ops + 1 } 0 rfl rfl (by omega) (by simp [rcv])⟩
set_option maxRecDepth 100000 in
set_option maxHeartbeats 1000000 in
theorem do_limit (b : Nat) (hb : b < 32) (h : RM w g P main F M 0) (hok : GOK M) (ho : M.ops = 1000) :
    Calls Tryz.prog 170 #[.pointer (some ⟨g, 0, none⟩), .int .i64 (b : Int)] w fun e w' => e = .returned (.tuple #[]) ∧ Below g w w' ∧ RX w' g 5 := by
  have HS := Lib.hid h.step
  have hBS : Below g w (w.setCell ⟨g, 10, none⟩ (.int .i64 ((M.ops : Int) + 1))) := (Below.refl g w).setCell (p := ⟨g, 10, none⟩) (Nat.le_refl g) _
  obtain ⟨ρ0, Ap0, cp0, Ai0, ci0, Aa0, ca0, Aw0, cw0, Al0, cl0, h0⟩ := h
  have c10 := h0.rc.c 10 _ rfl
  have n10 := h0.rc.nf 10
  obtain ⟨k, hk⟩ : ∃ k, M.ops = k := ⟨_, rfl⟩
  rw [hk] at c10 hBS ho
  have HK := Lib.hid hk
  have h24 := hok.w24
  clear h0
  subst ho
  rw [HK.out] at HS
  clear hk
  go_enter Tryz.func170, Tryz.ntmps170
  go_wp2_with fail
  refine (wrong_any 5 HS.out).mono ?_; rintro e w1 ⟨rfl, hr, hb1⟩
  simp only [if_true] at hr
  have HC := Lib.hid (counted_any b hb hr h24)
  go_wp2_with fail
  refine HC.out.mono ?_; rintro e w2 ⟨rfl, hr2, hb2⟩
  have hx : RX w2 g 5 := hr2.x
  obtain ⟨hx1, hx2⟩ := hx
  go_wp2_with fail
  refine bodyPost_ret (results_none rfl _ _ _) rfl ?_
  exact ⟨rfl, (hBS.trans hb1).trans hb2, hx1, hx2⟩
set_option maxRecDepth 100000 in
set_option maxHeartbeats 1000000 in
theorem do_bad (b : Nat) (hb : b < 32) (z : Int) (h : RM w g P main F M 0) (hok : GOK M) (ho : M.ops < 1000) (hz : cntE b M.wait.length = z) (hz0 : z ≠ 0) :
    Calls Tryz.prog 170 #[.pointer (some ⟨g, 0, none⟩), .int .i64 (b : Int)] w fun e w' => e = .returned (.tuple #[]) ∧ Below g w w' ∧ RX w' g z := by
  have HS := Lib.hid h.step
  have hBS : Below g w (w.setCell ⟨g, 10, none⟩ (.int .i64 ((M.ops : Int) + 1))) := (Below.refl g w).setCell (p := ⟨g, 10, none⟩) (Nat.le_refl g) _
  obtain ⟨ρ0, Ap0, cp0, Ai0, ci0, Aa0, ca0, Aw0, cw0, Al0, cl0, h0⟩ := h
  have c10 := h0.rc.c 10 _ rfl
  have n10 := h0.rc.nf 10
  obtain ⟨k, hk⟩ : ∃ k, M.ops = k := ⟨_, rfl⟩
  rw [hk] at c10 hBS ho
  have HK := Lib.hid hk
  have h24 := hok.w24
  clear h0
  rw [HK.out] at HS
  clear hk
  have HC := Lib.hid (counted_any b hb HS.out h24)
  simp only [if_true, hz] at HC
  have hz1 : (z != 0) = true := by simp [hz0]
  clear hz
  go_enter Tryz.func170, Tryz.ntmps170
  go_wp2_with fail
  refine HC.out.mono ?_; rintro e w2 ⟨rfl, hr2, hb2⟩
  obtain ⟨hx1, hx2⟩ := hr2.x
  go_wp2_with fail
  refine bodyPost_ret (results_none rfl _ _ _) rfl ?_
  exact ⟨rfl, hBS.trans hb2, hx1, hx2⟩
/-- The numbers are used up, an operator was run. -/
theorem RW.used {Aw : Option Addr} {cw : Nat} (h : RW w g P main F M er Aw cw) : RM ((w.setCell ⟨g, 4, none⟩ (.slice none 0 0)).setCell ⟨g, 9, none⟩ (.bool true)) g P main F { M with wait := [], drawn := true } er := by
  obtain ⟨ρ, Ap, cp, Ai, ci, Aa, ca, Al, cl, h⟩ := h
  have h2 := h.rr.popW (v' := .slice none 0 0) (xs' := []) (by exact own_nil) (.inr rfl)
  exact ⟨ρ, Ap, cp, Ai, ci, Aa, ca, none, 0, Al, cl, (h.rc.set 4 _ (by simp [rcv])).set 9 _ (by simp [rcv]), (h2.own1 set_own).own1 set_own, h.lc⟩
theorem linesG_two {v : List Int} (h : v.length = 2) : linesG M v = lineG M (v[0]?.getD 0) (v[1]?.getD 0) := by
  match v, h with
  | [a, b], _ =>
    simp only [linesG, List.getElem?_cons_zero, List.getElem?_cons_succ, Option.getD_some]
    cases lineG M a b <;> rfl
theorem draw3' {Aw : Option Addr} {cw : Nat} (h : RW w g P main F M 0 Aw cw) (hok : GOK M) (hm : M.wait.length = 2) :
    Calls Tryz.prog 189 #[.pointer (some ⟨g, 0, none⟩), .int .i64 3, .slice Aw 2 cw] w (GP g P main F Aw cw w (linesG M M.wait)) := by
  rw [linesG_two hm]; exact draw3 h hok hm
/-- What an operator answers. -/
def DoP (g : Nat) (P : List ByteArray) (main : ByteArray) (F : List (Int × Nat)) (w : World) (r : GR) (e : Ending) (w' : World) : Prop :=
  e = .returned (.tuple #[]) ∧ Below g w w' ∧ match r with
    | .bad er => er ≠ 0 ∧ RX w' g er
    | .ok M' => RM w' g P main F M' 0
theorem GP.used {Aw : Option Addr} {cw : Nat} {r : GR} {e : Ending} (h : GP g P main F Aw cw w r e w') :
    ∃ v4 v9, e = .returned (.tuple #[]) ∧ w'.cell? ⟨g, 4, none⟩ = some v4 ∧ w'.frozen? ⟨g, 4, none⟩ = false ∧ w'.cell? ⟨g, 9, none⟩ = some v9 ∧ w'.frozen? ⟨g, 9, none⟩ = false ∧
      DoP g P main F w (drawnG (clrG r)) (.returned (.tuple #[])) ((w'.setCell ⟨g, 4, none⟩ (.slice none 0 0)).setCell ⟨g, 9, none⟩ (.bool true)) := by
  obtain ⟨rfl, hb, hr⟩ := h
  have hB : Below g w ((w'.setCell ⟨g, 4, none⟩ (.slice none 0 0)).setCell ⟨g, 9, none⟩ (.bool true)) := (hb.setCell (p := ⟨g, 4, none⟩) (Nat.le_refl g) _).setCell (p := ⟨g, 9, none⟩) (Nat.le_refl g) _
  cases r with
  | bad z =>
    obtain ⟨hz, M', hw⟩ := hr
    have hu := hw.used
    obtain ⟨_, _, _, _, _, _, _, _, _, h⟩ := hw
    exact ⟨_, _, rfl, h.rc.c 4 _ rfl, h.rc.nf 4, h.rc.c 9 _ rfl, h.rc.nf 9, rfl, hB, hz, hu.x⟩
  | ok M' =>
    have hu := RW.used hr
    obtain ⟨_, _, _, _, _, _, _, _, _, h⟩ := hr
    exact ⟨_, _, rfl, h.rc.c 4 _ rfl, h.rc.nf 4, h.rc.c 9 _ rfl, h.rc.nf 9, rfl, hB, hu⟩
theorem GOK.stepped (h : GOK M) {k : Nat} (hk : k ≤ 1000) : GOK { M with ops := k } := ⟨h.w24, h.wv, h.x, h.y, h.may, h.wide, hk⟩
theorem DoP.up {w1 : World} {r : GR} {e : Ending} (hb : Below g w w1) (h : DoP g P main F w1 r e w') : DoP g P main F w r e w' := ⟨h.1, hb.trans h.2.1, h.2.2⟩
set_option maxRecDepth 100000 in
set_option maxHeartbeats 1000000 in
theorem do2 (h : RM w g P main F M 0) (hok : GOK M) (ho : M.ops < 1000) (hm : M.wait.length = 2) :
    Calls Tryz.prog 170 #[.pointer (some ⟨g, 0, none⟩), .int .i64 2] w (DoP g P main F w (drawG 2 { M with ops := M.ops + 1 })) := by
  have HS := Lib.hid h.step
  have hBS : Below g w (w.setCell ⟨g, 10, none⟩ (.int .i64 ((M.ops : Int) + 1))) := (Below.refl g w).setCell (p := ⟨g, 10, none⟩) (Nat.le_refl g) _
  obtain ⟨ρ0, Ap0, cp0, Ai0, ci0, Aa0, ca0, Aw0, cw0, Al0, cl0, h0⟩ := h
  have c10 := h0.rc.c 10 _ rfl
  have n10 := h0.rc.nf 10
  obtain ⟨k, hk⟩ : ∃ k, M.ops = k := ⟨_, rfl⟩
  rw [hk] at c10 hBS ho
  have HK := Lib.hid hk
  have h24 := hok.w24
  clear h0
  have hcnt : cntE 2 M.wait.length = 0 := by rw [hm]; decide
  have hop := (draw_cnt (b := 2) (by omega) (by omega) (by omega) { M with ops := M.ops + 1 }).2 hcnt
  obtain ⟨R, hR⟩ : ∃ R, drawG 2 { M with ops := M.ops + 1 } = R := ⟨_, rfl⟩
  rw [hR] at hop ⊢
  rw [HK.out] at HS hop
  have HC := Lib.hid (counted_any 2 (by omega) HS.out h24)
  simp only [if_true, hcnt] at HC
  have HR := Lib.hid hop
  have HOK := Lib.hid (hok.stepped (k := k + 1) (by omega))
  have HM := Lib.hid hm
  clear hk hop hR hcnt hok hm
  go_enter Tryz.func170, Tryz.ntmps170
  go_wp2_with fail
  refine HC.out.mono ?_; rintro e w2 ⟨rfl, hr2, hb2⟩
  obtain ⟨Aw, cw, hRW⟩ := hr2.rw
  have HRW := Lib.hid hRW
  obtain ⟨ρ, Ap, cp, Ai, ci, Aa, ca, Al, cl, hM⟩ := hRW
  have c12 := hM.rc.c 12 _ rfl
  have c4 := hM.rc.c 4 _ rfl
  simp only at c4
  rw [HM.out] at c4
  have hBB := hBS.trans hb2
  clear hM hr2
  have HD := Lib.hid (draw2 HRW.out HOK.out HM.out)
  go_wp2_with fail
  refine HD.out.mono ?_; rintro e w3 hgp
  obtain ⟨v4, v9, rfl, j4, n4, j9, n9, hdo⟩ := hgp.used
  have HDO := Lib.hid hdo
  clear hgp hdo
  go_wp2_with fail
  go_end0
  rw [HR.out]
  exact DoP.up hBB HDO.out
set_option maxRecDepth 100000 in
set_option maxHeartbeats 1000000 in
theorem do3 (h : RM w g P main F M 0) (hok : GOK M) (ho : M.ops < 1000) (hm : M.wait.length = 2) :
    Calls Tryz.prog 170 #[.pointer (some ⟨g, 0, none⟩), .int .i64 3] w (DoP g P main F w (drawG 3 { M with ops := M.ops + 1 })) := by
  have HS := Lib.hid h.step
  have hBS : Below g w (w.setCell ⟨g, 10, none⟩ (.int .i64 ((M.ops : Int) + 1))) := (Below.refl g w).setCell (p := ⟨g, 10, none⟩) (Nat.le_refl g) _
  obtain ⟨ρ0, Ap0, cp0, Ai0, ci0, Aa0, ca0, Aw0, cw0, Al0, cl0, h0⟩ := h
  have c10 := h0.rc.c 10 _ rfl
  have n10 := h0.rc.nf 10
  obtain ⟨k, hk⟩ : ∃ k, M.ops = k := ⟨_, rfl⟩
  rw [hk] at c10 hBS ho
  have HK := Lib.hid hk
  have h24 := hok.w24
  clear h0
  have hcnt : cntE 3 M.wait.length = 0 := by rw [hm]; decide
  have hop := (draw_cnt (b := 3) (by omega) (by omega) (by omega) { M with ops := M.ops + 1 }).2 hcnt
  obtain ⟨R, hR⟩ : ∃ R, drawG 3 { M with ops := M.ops + 1 } = R := ⟨_, rfl⟩
  rw [hR] at hop ⊢
  rw [HK.out] at HS hop
  have HC := Lib.hid (counted_any 3 (by omega) HS.out h24)
  simp only [if_true, hcnt] at HC
  have HR := Lib.hid hop
  have HOK := Lib.hid (hok.stepped (k := k + 1) (by omega))
  have HM := Lib.hid hm
  clear hk hop hR hcnt hok hm
  go_enter Tryz.func170, Tryz.ntmps170
  go_wp2_with fail
  refine HC.out.mono ?_; rintro e w2 ⟨rfl, hr2, hb2⟩
  obtain ⟨Aw, cw, hRW⟩ := hr2.rw
  have HRW := Lib.hid hRW
  obtain ⟨ρ, Ap, cp, Ai, ci, Aa, ca, Al, cl, hM⟩ := hRW
  have c12 := hM.rc.c 12 _ rfl
  have c4 := hM.rc.c 4 _ rfl
  simp only at c4
  rw [HM.out] at c4
  have hBB := hBS.trans hb2
  clear hM hr2
  have HD := Lib.hid (draw3' HRW.out HOK.out HM.out)
  go_wp2_with fail
  refine HD.out.mono ?_; rintro e w3 hgp
  obtain ⟨v4, v9, rfl, j4, n4, j9, n9, hdo⟩ := hgp.used
  have HDO := Lib.hid hdo
  clear hgp hdo
  go_wp2_with fail
  go_end0
  rw [HR.out]
  exact DoP.up hBB HDO.out
set_option maxRecDepth 100000 in
set_option maxHeartbeats 1000000 in
theorem do4 (h : RM w g P main F M 0) (hok : GOK M) (ho : M.ops < 1000) (hm : M.wait.length = 4) :
    Calls Tryz.prog 170 #[.pointer (some ⟨g, 0, none⟩), .int .i64 4] w (DoP g P main F w (drawG 4 { M with ops := M.ops + 1 })) := by
  have HS := Lib.hid h.step
  have hBS : Below g w (w.setCell ⟨g, 10, none⟩ (.int .i64 ((M.ops : Int) + 1))) := (Below.refl g w).setCell (p := ⟨g, 10, none⟩) (Nat.le_refl g) _
  obtain ⟨ρ0, Ap0, cp0, Ai0, ci0, Aa0, ca0, Aw0, cw0, Al0, cl0, h0⟩ := h
  have c10 := h0.rc.c 10 _ rfl
  have n10 := h0.rc.nf 10
  obtain ⟨k, hk⟩ : ∃ k, M.ops = k := ⟨_, rfl⟩
  rw [hk] at c10 hBS ho
  have HK := Lib.hid hk
  have h24 := hok.w24
  clear h0
  have hcnt : cntE 4 M.wait.length = 0 := by rw [hm]; decide
  have hop := (draw_cnt (b := 4) (by omega) (by omega) (by omega) { M with ops := M.ops + 1 }).2 hcnt
  obtain ⟨R, hR⟩ : ∃ R, drawG 4 { M with ops := M.ops + 1 } = R := ⟨_, rfl⟩
  rw [hR] at hop ⊢
  rw [HK.out] at HS hop
  have HC := Lib.hid (counted_any 4 (by omega) HS.out h24)
  simp only [if_true, hcnt] at HC
  have HR := Lib.hid hop
  have HOK := Lib.hid (hok.stepped (k := k + 1) (by omega))
  have HM := Lib.hid hm
  clear hk hop hR hcnt hok hm
  go_enter Tryz.func170, Tryz.ntmps170
  go_wp2_with fail
  refine HC.out.mono ?_; rintro e w2 ⟨rfl, hr2, hb2⟩
  obtain ⟨Aw, cw, hRW⟩ := hr2.rw
  have HRW := Lib.hid hRW
  obtain ⟨ρ, Ap, cp, Ai, ci, Aa, ca, Al, cl, hM⟩ := hRW
  have c12 := hM.rc.c 12 _ rfl
  have c4 := hM.rc.c 4 _ rfl
  simp only at c4
  rw [HM.out] at c4
  have hBB := hBS.trans hb2
  clear hM hr2
  have HD := Lib.hid (draw4 HRW.out HOK.out HM.out)
  go_wp2_with fail
  refine HD.out.mono ?_; rintro e w3 hgp
  obtain ⟨v4, v9, rfl, j4, n4, j9, n9, hdo⟩ := hgp.used
  have HDO := Lib.hid hdo
  clear hgp hdo
  go_wp2_with fail
  go_end0
  rw [HR.out]
  exact DoP.up hBB HDO.out
set_option maxRecDepth 100000 in
set_option maxHeartbeats 1000000 in
theorem do5 (h : RM w g P main F M 0) (hok : GOK M) (ho : M.ops < 1000) (hm : M.wait.length = 1) :
    Calls Tryz.prog 170 #[.pointer (some ⟨g, 0, none⟩), .int .i64 5] w (DoP g P main F w (drawG 5 { M with ops := M.ops + 1 })) := by
  have HS := Lib.hid h.step
  have hBS : Below g w (w.setCell ⟨g, 10, none⟩ (.int .i64 ((M.ops : Int) + 1))) := (Below.refl g w).setCell (p := ⟨g, 10, none⟩) (Nat.le_refl g) _
  obtain ⟨ρ0, Ap0, cp0, Ai0, ci0, Aa0, ca0, Aw0, cw0, Al0, cl0, h0⟩ := h
  have c10 := h0.rc.c 10 _ rfl
  have n10 := h0.rc.nf 10
  obtain ⟨k, hk⟩ : ∃ k, M.ops = k := ⟨_, rfl⟩
  rw [hk] at c10 hBS ho
  have HK := Lib.hid hk
  have h24 := hok.w24
  clear h0
  have hcnt : cntE 5 M.wait.length = 0 := by rw [hm]; decide
  have hop := (draw_cnt (b := 5) (by omega) (by omega) (by omega) { M with ops := M.ops + 1 }).2 hcnt
  obtain ⟨R, hR⟩ : ∃ R, drawG 5 { M with ops := M.ops + 1 } = R := ⟨_, rfl⟩
  rw [hR] at hop ⊢
  rw [HK.out] at HS hop
  have HC := Lib.hid (counted_any 5 (by omega) HS.out h24)
  simp only [if_true, hcnt] at HC
  have HR := Lib.hid hop
  have HOK := Lib.hid (hok.stepped (k := k + 1) (by omega))
  have HM := Lib.hid hm
  clear hk hop hR hcnt hok hm
  go_enter Tryz.func170, Tryz.ntmps170
  go_wp2_with fail
  refine HC.out.mono ?_; rintro e w2 ⟨rfl, hr2, hb2⟩
  obtain ⟨Aw, cw, hRW⟩ := hr2.rw
  have HRW := Lib.hid hRW
  obtain ⟨ρ, Ap, cp, Ai, ci, Aa, ca, Al, cl, hM⟩ := hRW
  have c12 := hM.rc.c 12 _ rfl
  have c4 := hM.rc.c 4 _ rfl
  simp only at c4
  rw [HM.out] at c4
  have hBB := hBS.trans hb2
  clear hM hr2
  have HD := Lib.hid (draw5 HRW.out HOK.out HM.out)
  go_wp2_with fail
  refine HD.out.mono ?_; rintro e w3 hgp
  obtain ⟨v4, v9, rfl, j4, n4, j9, n9, hdo⟩ := hgp.used
  have HDO := Lib.hid hdo
  clear hgp hdo
  go_wp2_with fail
  go_end0
  rw [HR.out]
  exact DoP.up hBB HDO.out
set_option maxRecDepth 100000 in
set_option maxHeartbeats 1000000 in
theorem do6 (h : RM w g P main F M 0) (hok : GOK M) (ho : M.ops < 1000) (hm : M.wait.length = 1) :
    Calls Tryz.prog 170 #[.pointer (some ⟨g, 0, none⟩), .int .i64 6] w (DoP g P main F w (drawG 6 { M with ops := M.ops + 1 })) := by
  have HS := Lib.hid h.step
  have hBS : Below g w (w.setCell ⟨g, 10, none⟩ (.int .i64 ((M.ops : Int) + 1))) := (Below.refl g w).setCell (p := ⟨g, 10, none⟩) (Nat.le_refl g) _
  obtain ⟨ρ0, Ap0, cp0, Ai0, ci0, Aa0, ca0, Aw0, cw0, Al0, cl0, h0⟩ := h
  have c10 := h0.rc.c 10 _ rfl
  have n10 := h0.rc.nf 10
  obtain ⟨k, hk⟩ : ∃ k, M.ops = k := ⟨_, rfl⟩
  rw [hk] at c10 hBS ho
  have HK := Lib.hid hk
  have h24 := hok.w24
  clear h0
  have hcnt : cntE 6 M.wait.length = 0 := by rw [hm]; decide
  have hop := (draw_cnt (b := 6) (by omega) (by omega) (by omega) { M with ops := M.ops + 1 }).2 hcnt
  obtain ⟨R, hR⟩ : ∃ R, drawG 6 { M with ops := M.ops + 1 } = R := ⟨_, rfl⟩
  rw [hR] at hop ⊢
  rw [HK.out] at HS hop
  have HC := Lib.hid (counted_any 6 (by omega) HS.out h24)
  simp only [if_true, hcnt] at HC
  have HR := Lib.hid hop
  have HOK := Lib.hid (hok.stepped (k := k + 1) (by omega))
  have HM := Lib.hid hm
  clear hk hop hR hcnt hok hm
  go_enter Tryz.func170, Tryz.ntmps170
  go_wp2_with fail
  refine HC.out.mono ?_; rintro e w2 ⟨rfl, hr2, hb2⟩
  obtain ⟨Aw, cw, hRW⟩ := hr2.rw
  have HRW := Lib.hid hRW
  obtain ⟨ρ, Ap, cp, Ai, ci, Aa, ca, Al, cl, hM⟩ := hRW
  have c12 := hM.rc.c 12 _ rfl
  have c4 := hM.rc.c 4 _ rfl
  simp only at c4
  rw [HM.out] at c4
  have hBB := hBS.trans hb2
  clear hM hr2
  have HD := Lib.hid (draw6 HRW.out HOK.out HM.out)
  go_wp2_with fail
  refine HD.out.mono ?_; rintro e w3 hgp
  obtain ⟨v4, v9, rfl, j4, n4, j9, n9, hdo⟩ := hgp.used
  have HDO := Lib.hid hdo
  clear hgp hdo
  go_wp2_with fail
  go_end0
  rw [HR.out]
  exact DoP.up hBB HDO.out
set_option maxRecDepth 100000 in
set_option maxHeartbeats 1000000 in
theorem do7 (h : RM w g P main F M 0) (hok : GOK M) (ho : M.ops < 1000) (hm : M.wait.length = 0) :
    Calls Tryz.prog 170 #[.pointer (some ⟨g, 0, none⟩), .int .i64 7] w (DoP g P main F w (drawG 7 { M with ops := M.ops + 1 })) := by
  have HS := Lib.hid h.step
  have hBS : Below g w (w.setCell ⟨g, 10, none⟩ (.int .i64 ((M.ops : Int) + 1))) := (Below.refl g w).setCell (p := ⟨g, 10, none⟩) (Nat.le_refl g) _
  obtain ⟨ρ0, Ap0, cp0, Ai0, ci0, Aa0, ca0, Aw0, cw0, Al0, cl0, h0⟩ := h
  have c10 := h0.rc.c 10 _ rfl
  have n10 := h0.rc.nf 10
  obtain ⟨k, hk⟩ : ∃ k, M.ops = k := ⟨_, rfl⟩
  rw [hk] at c10 hBS ho
  have HK := Lib.hid hk
  have h24 := hok.w24
  clear h0
  have hcnt : cntE 7 M.wait.length = 0 := by rw [hm]; decide
  have hop := (draw_cnt (b := 7) (by omega) (by omega) (by omega) { M with ops := M.ops + 1 }).2 hcnt
  obtain ⟨R, hR⟩ : ∃ R, drawG 7 { M with ops := M.ops + 1 } = R := ⟨_, rfl⟩
  rw [hR] at hop ⊢
  rw [HK.out] at HS hop
  have HC := Lib.hid (counted_any 7 (by omega) HS.out h24)
  simp only [if_true, hcnt] at HC
  have HR := Lib.hid hop
  have HOK := Lib.hid (hok.stepped (k := k + 1) (by omega))
  have HM := Lib.hid hm
  clear hk hop hR hcnt hok hm
  go_enter Tryz.func170, Tryz.ntmps170
  go_wp2_with fail
  refine HC.out.mono ?_; rintro e w2 ⟨rfl, hr2, hb2⟩
  obtain ⟨Aw, cw, hRW⟩ := hr2.rw
  have HRW := Lib.hid hRW
  obtain ⟨ρ, Ap, cp, Ai, ci, Aa, ca, Al, cl, hM⟩ := hRW
  have c12 := hM.rc.c 12 _ rfl
  have c4 := hM.rc.c 4 _ rfl
  simp only at c4
  rw [HM.out] at c4
  have hBB := hBS.trans hb2
  clear hM hr2
  have HD := Lib.hid ((fun h ok (_ : _ = 0) => draw7 (.slice Aw 0 cw) h ok) HRW.out HOK.out HM.out)
  go_wp2_with fail
  refine HD.out.mono ?_; rintro e w3 hgp
  obtain ⟨v4, v9, rfl, j4, n4, j9, n9, hdo⟩ := hgp.used
  have HDO := Lib.hid hdo
  clear hgp hdo
  go_wp2_with fail
  go_end0
  rw [HR.out]
  exact DoP.up hBB HDO.out
set_option maxRecDepth 100000 in
set_option maxHeartbeats 1000000 in
theorem do11 (m : Nat) (h : RM w g P main F M 0) (hok : GOK M) (ho : M.ops < 1000) (hm : M.wait.length = m) (hm0 : 0 < m) (hm2 : m % 2 = 0) :
    Calls Tryz.prog 170 #[.pointer (some ⟨g, 0, none⟩), .int .i64 11] w (DoP g P main F w (drawG 11 { M with ops := M.ops + 1 })) := by
  have hc0 : cntE 11 m = 0 := by
    have h1 : takesR 11 = -1 := rfl
    unfold cntE; rw [h1, if_neg (by omega), if_neg (by omega), if_neg (by omega)]
  have HS := Lib.hid h.step
  have hBS : Below g w (w.setCell ⟨g, 10, none⟩ (.int .i64 ((M.ops : Int) + 1))) := (Below.refl g w).setCell (p := ⟨g, 10, none⟩) (Nat.le_refl g) _
  obtain ⟨ρ0, Ap0, cp0, Ai0, ci0, Aa0, ca0, Aw0, cw0, Al0, cl0, h0⟩ := h
  have c10 := h0.rc.c 10 _ rfl
  have n10 := h0.rc.nf 10
  obtain ⟨k, hk⟩ : ∃ k, M.ops = k := ⟨_, rfl⟩
  rw [hk] at c10 hBS ho
  have HK := Lib.hid hk
  have h24 := hok.w24
  clear h0
  have hcnt : cntE 11 M.wait.length = 0 := by rw [hm]; exact hc0
  have hop := (draw_cnt (b := 11) (by omega) (by omega) (by omega) { M with ops := M.ops + 1 }).2 hcnt
  obtain ⟨R, hR⟩ : ∃ R, drawG 11 { M with ops := M.ops + 1 } = R := ⟨_, rfl⟩
  rw [hR] at hop ⊢
  rw [HK.out] at HS hop
  have HC := Lib.hid (counted_any 11 (by omega) HS.out h24)
  simp only [if_true, hcnt] at HC
  have HR := Lib.hid hop
  have HOK := Lib.hid (hok.stepped (k := k + 1) (by omega))
  have HM := Lib.hid hm
  clear hk hop hR hcnt hok hm
  go_enter Tryz.func170, Tryz.ntmps170
  go_wp2_with fail
  refine HC.out.mono ?_; rintro e w2 ⟨rfl, hr2, hb2⟩
  obtain ⟨Aw, cw, hRW⟩ := hr2.rw
  have HRW := Lib.hid hRW
  obtain ⟨ρ, Ap, cp, Ai, ci, Aa, ca, Al, cl, hM⟩ := hRW
  have c12 := hM.rc.c 12 _ rfl
  have c4 := hM.rc.c 4 _ rfl
  simp only at c4
  rw [HM.out] at c4
  have hBB := hBS.trans hb2
  clear hM hr2
  have HD := Lib.hid ((fun h ok hl => draw11 m h ok hl hm0 hm2) HRW.out HOK.out HM.out)
  go_wp2_with fail
  refine HD.out.mono ?_; rintro e w3 hgp
  obtain ⟨v4, v9, rfl, j4, n4, j9, n9, hdo⟩ := hgp.used
  have HDO := Lib.hid hdo
  clear hgp hdo
  go_wp2_with fail
  go_end0
  rw [HR.out]
  exact DoP.up hBB HDO.out
set_option maxRecDepth 100000 in
set_option maxHeartbeats 1000000 in
theorem do1 (h : RM w g P main F M 0) (hok : GOK M) (ho : M.ops < 1000) (hm : M.wait.length = 1) :
    Calls Tryz.prog 170 #[.pointer (some ⟨g, 0, none⟩), .int .i64 1] w (DoP g P main F w (drawG 1 { M with ops := M.ops + 1 })) := by
  have HS := Lib.hid h.step
  have hBS : Below g w (w.setCell ⟨g, 10, none⟩ (.int .i64 ((M.ops : Int) + 1))) := (Below.refl g w).setCell (p := ⟨g, 10, none⟩) (Nat.le_refl g) _
  obtain ⟨ρ0, Ap0, cp0, Ai0, ci0, Aa0, ca0, Aw0, cw0, Al0, cl0, h0⟩ := h
  have c10 := h0.rc.c 10 _ rfl
  have n10 := h0.rc.nf 10
  obtain ⟨k, hk⟩ : ∃ k, M.ops = k := ⟨_, rfl⟩
  rw [hk] at c10 hBS ho
  have HK := Lib.hid hk
  have h24 := hok.w24
  clear h0
  have hcnt : cntE 1 M.wait.length = 0 := by rw [hm]; decide
  have hop := (draw_cnt (b := 1) (by omega) (by omega) (by omega) { M with ops := M.ops + 1 }).2 hcnt
  obtain ⟨R, hR⟩ : ∃ R, drawG 1 { M with ops := M.ops + 1 } = R := ⟨_, rfl⟩
  rw [hR] at hop ⊢
  rw [HK.out] at HS hop
  have HC := Lib.hid (counted_any 1 (by omega) HS.out h24)
  simp only [if_true, hcnt] at HC
  obtain ⟨a, ha⟩ : ∃ a, M.wait[0]?.getD 0 = a := ⟨_, rfl⟩
  have hop2 : R = drawnG (clrG (widthG { M with ops := k + 1 } a)) := by rw [hop, ← ha]; rfl
  have HR := Lib.hid hop2
  have HM := Lib.hid hm
  have HA := Lib.hid ha
  clear hk hop hR hcnt hok hm hop2 ha
  go_enter Tryz.func170, Tryz.ntmps170
  go_wp2_with fail
  refine HC.out.mono ?_; rintro e w2 ⟨rfl, hr2, hb2⟩
  obtain ⟨Aw, cw, hRW⟩ := hr2.rw
  have HRW := Lib.hid hRW
  obtain ⟨ρ, Ap, cp, Ai, ci, Aa, ca, Al, cl, hM⟩ := hRW
  have c12 := hM.rc.c 12 _ rfl
  have c4 := hM.rc.c 4 _ rfl
  have hws := own_sl hM.rr.hw
  simp only at c4 hws
  rw [HM.out] at c4 hws
  obtain ⟨bw, ow, rfl, hbw, hcw⟩ := hws.two (by omega)
  have d0 := hcw 0 (by omega)
  rw [Nat.add_zero, HA.out] at d0
  have hBB := hBS.trans hb2
  clear hM hr2 hcw hws
  have HD := Lib.hid (wide_any40 a HRW.out)
  go_wp2_with fail
  refine HD.out.mono ?_; rintro e w3 hgp
  obtain ⟨v4, v9, rfl, j4, n4, j9, n9, hdo⟩ := hgp.used
  have HDO := Lib.hid hdo
  clear hgp hdo
  go_wp2_with fail
  go_end0
  rw [HR.out]
  exact DoP.up hBB HDO.out
set_option maxRecDepth 100000 in
set_option maxHeartbeats 1000000 in
theorem do10 (h : RM w g P main F M 0) (hok : GOK M) (ho : M.ops < 1000) (hm : M.wait.length = 0) :
    Calls Tryz.prog 170 #[.pointer (some ⟨g, 0, none⟩), .int .i64 10] w (DoP g P main F w (drawG 10 { M with ops := M.ops + 1 })) := by
  have HS := Lib.hid h.step
  have hBS : Below g w (w.setCell ⟨g, 10, none⟩ (.int .i64 ((M.ops : Int) + 1))) := (Below.refl g w).setCell (p := ⟨g, 10, none⟩) (Nat.le_refl g) _
  obtain ⟨ρ0, Ap0, cp0, Ai0, ci0, Aa0, ca0, Aw0, cw0, Al0, cl0, h0⟩ := h
  have c10 := h0.rc.c 10 _ rfl
  have n10 := h0.rc.nf 10
  obtain ⟨k, hk⟩ : ∃ k, M.ops = k := ⟨_, rfl⟩
  rw [hk] at c10 hBS ho
  have HK := Lib.hid hk
  have h24 := hok.w24
  clear h0
  have hcnt : cntE 10 M.wait.length = 0 := by rw [hm]; decide
  have hop := (draw_cnt (b := 10) (by omega) (by omega) (by omega) { M with ops := M.ops + 1 }).2 hcnt
  obtain ⟨R, hR⟩ : ∃ R, drawG 10 { M with ops := M.ops + 1 } = R := ⟨_, rfl⟩
  rw [hR] at hop ⊢
  rw [HK.out] at HS hop
  have HC := Lib.hid (counted_any 10 (by omega) HS.out h24)
  simp only [if_true, hcnt] at HC
  have HR := Lib.hid hop
  have HM := Lib.hid hm
  clear hk hop hR hcnt hok hm
  go_enter Tryz.func170, Tryz.ntmps170
  go_wp2_with fail
  refine HC.out.mono ?_; rintro e w2 ⟨rfl, hr2, hb2⟩
  obtain ⟨Aw, cw, hRW⟩ := hr2.rw
  obtain ⟨ρ, Ap, cp, Ai, ci, Aa, ca, Al, cl, hM⟩ := hRW
  have c12 := hM.rc.c 12 _ rfl
  have c4 := hM.rc.c 4 _ rfl
  have c9 := hM.rc.c 9 _ rfl
  have c11 := hM.rc.c 11 _ rfl
  have f4 := hM.rc.nf 4
  have f9 := hM.rc.nf 9
  have f11 := hM.rc.nf 11
  have hov := hM.put 11 (.bool true) { M with ops := k + 1, over := true } 0 rfl rfl (by omega) rfl
  have HU := Lib.hid (RW.used (cw := cw) ⟨ρ, Ap, cp, Ai, ci, Aa, ca, Al, cl, hov⟩)
  have hBB := hBS.trans hb2
  clear hM hr2 hov
  go_wp2_with fail
  go_end0
  rw [HR.out]
  exact ⟨rfl, ((hBB.setCell (p := ⟨g, 11, none⟩) (Nat.le_refl g) _).setCell (p := ⟨g, 4, none⟩) (Nat.le_refl g) _).setCell (p := ⟨g, 9, none⟩) (Nat.le_refl g) _, HU.out⟩
set_option maxRecDepth 100000 in
set_option maxHeartbeats 1000000 in
theorem do8Q (Q : World → Prop) (n : Nat) (q : Int) (h : RM w g P main F M 0) (hok : GOK M) (ho : M.ops < 1000) (hn : M.wait.length = n + 1) (hq : M.wait[n]?.getD 0 = q) (hF : F.length ≤ 5) (hP : P.length ≤ 16)
    (hQ : ∀ w', (if q < 0 ∨ (P.length : Int) ≤ q then RM w' g P main F { M with ops := M.ops + 1, wait := M.wait.dropLast } 3 else if 4 < F.length then RM w' g P main F { M with ops := M.ops + 1, wait := M.wait.dropLast } 5 else RM w' g P main (F ++ [(q, 0)]) { M with ops := M.ops + 1, wait := M.wait.dropLast } 0) → Q w') :
    Calls Tryz.prog 170 #[.pointer (some ⟨g, 0, none⟩), .int .i64 8] w fun e w' => e = .returned (.tuple #[]) ∧ Below g w w' ∧ Q w' := by
  have HS := Lib.hid h.step
  have hBS : Below g w (w.setCell ⟨g, 10, none⟩ (.int .i64 ((M.ops : Int) + 1))) := (Below.refl g w).setCell (p := ⟨g, 10, none⟩) (Nat.le_refl g) _
  obtain ⟨ρ0, Ap0, cp0, Ai0, ci0, Aa0, ca0, Aw0, cw0, Al0, cl0, h0⟩ := h
  have c10 := h0.rc.c 10 _ rfl
  have n10 := h0.rc.nf 10
  obtain ⟨k, hk⟩ : ∃ k, M.ops = k := ⟨_, rfl⟩
  rw [hk] at c10 hBS ho
  have HK := Lib.hid hk
  have h24 := hok.w24
  clear h0
  have hcnt : cntE 8 M.wait.length = 0 := by
    have h1 : takesR 8 = -1 := rfl
    rw [hn]; unfold cntE; rw [h1, if_neg (by omega), if_neg (by omega), if_neg (by omega)]
  rw [HK.out] at HS
  have HC := Lib.hid (counted_any 8 (by omega) HS.out h24)
  simp only [if_true, hcnt] at HC
  have HCALL := Lib.hid (fun W (hr : RM W g P main F { M with ops := k + 1 } 0) => call_any40 n q hr (hok.stepped (k := k + 1) (by omega)) hn hq hF hP)
  rw [HK.out] at hQ
  have HQ := Lib.hid hQ
  clear hk hcnt hok hn hq hQ
  go_enter Tryz.func170, Tryz.ntmps170
  go_wp2_with fail
  refine HC.out.mono ?_; rintro e w2 ⟨rfl, hr2, hb2⟩
  have HR2 := Lib.hid hr2
  obtain ⟨Aw, cw, hRW⟩ := hr2.rw
  obtain ⟨ρ, Ap, cp, Ai, ci, Aa, ca, Al, cl, hM⟩ := hRW
  have c12 := hM.rc.c 12 _ rfl
  have c4 := hM.rc.c 4 _ rfl
  have hBB := hBS.trans hb2
  clear hM hr2
  go_wp2_with fail
  refine (HCALL.out _ HR2.out).mono ?_; rintro e w3 ⟨rfl, hb3, hr3⟩
  have HR3 := Lib.hid (HQ.out _ hr3)
  clear hr3
  go_wp2_with fail
  refine bodyPost_ret (results_none rfl _ _ _) rfl ?_
  exact ⟨rfl, hBB.trans hb3, HR3.out⟩
theorem do8 (n : Nat) (q : Int) (h : RM w g P main F M 0) (hok : GOK M) (ho : M.ops < 1000) (hn : M.wait.length = n + 1) (hq : M.wait[n]?.getD 0 = q) (hF : F.length ≤ 5) (hP : P.length ≤ 16) :
    Calls Tryz.prog 170 #[.pointer (some ⟨g, 0, none⟩), .int .i64 8] w fun e w' => e = .returned (.tuple #[]) ∧ Below g w w' ∧
      if q < 0 ∨ (P.length : Int) ≤ q then RX w' g 3 else if 4 < F.length then RX w' g 5 else RM w' g P main (F ++ [(q, 0)]) { M with ops := M.ops + 1, wait := M.wait.dropLast } 0 :=
  do8Q _ n q h hok ho hn hq hF hP fun w' hr3 => by
    by_cases h3 : q < 0 ∨ (P.length : Int) ≤ q
    · rw [if_pos h3] at hr3 ⊢; exact hr3.x
    · rw [if_neg h3] at hr3 ⊢
      by_cases h4 : 4 < F.length
      · rw [if_pos h4] at hr3 ⊢; exact hr3.x
      · rw [if_neg h4] at hr3 ⊢; exact hr3
set_option maxRecDepth 100000 in
set_option maxHeartbeats 1000000 in
theorem do9Q (Q : World → Prop) (i : Int) (a : Nat) (h : RM w g P main (F0 ++ [(i, a)]) M 0) (hok : GOK M) (ho : M.ops < 1000) (hF : F0.length ≤ 10)
    (hQ : ∀ w', (if F0.length = 0 then RX w' g 3 else RM w' g P main F0 { M with ops := M.ops + 1 } 0) → Q w') :
    Calls Tryz.prog 170 #[.pointer (some ⟨g, 0, none⟩), .int .i64 9] w fun e w' => e = .returned (.tuple #[]) ∧ Below g w w' ∧ Q w' := by
  have HS := Lib.hid h.step
  have hBS : Below g w (w.setCell ⟨g, 10, none⟩ (.int .i64 ((M.ops : Int) + 1))) := (Below.refl g w).setCell (p := ⟨g, 10, none⟩) (Nat.le_refl g) _
  obtain ⟨ρ0, Ap0, cp0, Ai0, ci0, Aa0, ca0, Aw0, cw0, Al0, cl0, h0⟩ := h
  have c10 := h0.rc.c 10 _ rfl
  have n10 := h0.rc.nf 10
  obtain ⟨k, hk⟩ : ∃ k, M.ops = k := ⟨_, rfl⟩
  rw [hk] at c10 hBS ho
  have HK := Lib.hid hk
  have h24 := hok.w24
  clear h0
  have hcnt : cntE 9 M.wait.length = 0 := by
    have h1 : takesR 9 = -1 := rfl
    unfold cntE; rw [h1, if_neg (by omega), if_neg (by omega), if_neg (by omega)]
  rw [HK.out] at HS
  have HC := Lib.hid (counted_any 9 (by omega) HS.out h24)
  simp only [if_true, hcnt] at HC
  rw [HK.out] at hQ
  have HQ := Lib.hid hQ
  clear hk hcnt hok hQ
  have HB : Hid (∀ W, RM W g P main (F0 ++ [(i, a)]) { M with ops := k + 1 } 0 → Calls Tryz.prog 187 #[.pointer (some ⟨g, 0, none⟩)] W fun e w' => e = .returned (.tuple #[]) ∧ Below g W w' ∧ if F0.length = 0 then RX w' g 3 else RM w' g P main F0 { M with ops := k + 1 } 0) := by
    intro W hr
    by_cases h0 : F0.length = 0
    · obtain rfl := List.eq_nil_of_length_eq_zero h0
      refine (back_none i a hr).mono ?_; rintro e w' ⟨rfl, hb, hr⟩
      exact ⟨rfl, hb, by rw [if_pos h0]; exact hr.x⟩
    · refine (back_any40 i a hr (by omega) hF).mono ?_; rintro e w' ⟨rfl, hb, hr⟩
      exact ⟨rfl, hb, by rw [if_neg h0]; exact hr⟩
  go_enter Tryz.func170, Tryz.ntmps170
  go_wp2_with fail
  refine HC.out.mono ?_; rintro e w2 ⟨rfl, hr2, hb2⟩
  have HR2 := Lib.hid hr2
  obtain ⟨Aw, cw, hRW⟩ := hr2.rw
  obtain ⟨ρ, Ap, cp, Ai, ci, Aa, ca, Al, cl, hM⟩ := hRW
  have c12 := hM.rc.c 12 _ rfl
  have c4 := hM.rc.c 4 _ rfl
  have hBB := hBS.trans hb2
  clear hM hr2
  go_wp2_with fail
  refine (HB.out _ HR2.out).mono ?_; rintro e w3 ⟨rfl, hb3, hr3⟩
  have HR3 := Lib.hid (HQ.out _ hr3)
  clear hr3
  go_wp2_with fail
  refine bodyPost_ret (results_none rfl _ _ _) rfl ?_
  exact ⟨rfl, hBB.trans hb3, HR3.out⟩
theorem do9 (i : Int) (a : Nat) (h : RM w g P main (F0 ++ [(i, a)]) M 0) (hok : GOK M) (ho : M.ops < 1000) (hF : F0.length ≤ 10) :
    Calls Tryz.prog 170 #[.pointer (some ⟨g, 0, none⟩), .int .i64 9] w fun e w' => e = .returned (.tuple #[]) ∧ Below g w w' ∧
      if F0.length = 0 then RX w' g 3 else RM w' g P main F0 { M with ops := M.ops + 1 } 0 := do9Q _ i a h hok ho hF fun _ h => h
end
end Go.Proofs.YtdfkbbcoolgfiaaGreat
