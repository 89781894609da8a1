/- The reference's machine: what an operator takes; a path more; the width. -/
import Derived.Test.YtdfkbbcoolgfiaaGreatMG1
import Derived.Test.YtdfkbbcoolgfiaaGreatMRA
namespace Go.Proofs.YtdfkbbcoolgfiaaGreat
open Go.RowKit Go.BigFrame

def takesR (b : Nat) : Int := if b = 1 ∨ b = 5 ∨ b = 6 then 1 else if b = 2 ∨ b = 3 then 2 else if b = 4 then 4 else if b = 7 ∨ b = 10 then 0 else if b = 8 ∨ b = 9 ∨ b = 11 then -1 else -2
/-- What is wrong with so many numbers. -/
def cntE (b m : Nat) : Int :=
  if takesR b = -2 then 3 else if (b = 8 ∧ m = 0) ∨ (b = 11 ∧ (m = 0 ∨ m % 2 = 1)) ∨ (0 ≤ takesR b ∧ (m : Int) < takesR b) then 7 else if 0 ≤ takesR b ∧ takesR b < (m : Int) then 8 else 0
theorem byte_cases {b : Nat} (hb : b < 32) : b = 0 ∨ b = 1 ∨ b = 2 ∨ b = 3 ∨ b = 4 ∨ b = 5 ∨ b = 6 ∨ b = 7 ∨ b = 8 ∨ b = 9 ∨ b = 10 ∨ b = 11 ∨ 12 ≤ b := by omega
set_option maxRecDepth 100000 in
theorem Takes_any (b : Nat) (w : World) (hb : b < 32) : Calls Tryz.prog 191 #[.int .i64 (b : Int)] w fun e w' => e = .returned (.int .i64 (takesR b)) ∧ w = w' := by
  rcases byte_cases hb with rfl | rfl | rfl | rfl | rfl | rfl | rfl | rfl | rfl | rfl | rfl | rfl | h12
  case inr.inr.inr.inr.inr.inr.inr.inr.inr.inr.inr.inr =>
    have h0 : takesR b = -2 := by unfold takesR; rw [if_neg (by omega), if_neg (by omega), if_neg (by omega), if_neg (by omega), if_neg (by omega)]
    have e1 : ((b : Int) == 1) = false := by simp; omega
    have e2 : ((b : Int) == 2) = false := by simp; omega
    have e3 : ((b : Int) == 3) = false := by simp; omega
    have e4 : ((b : Int) == 4) = false := by simp; omega
    have e5 : ((b : Int) == 5) = false := by simp; omega
    have e6 : ((b : Int) == 6) = false := by simp; omega
    have e7 : ((b : Int) == 7) = false := by simp; omega
    have e8 : ((b : Int) == 8) = false := by simp; omega
    have e9 : ((b : Int) == 9) = false := by simp; omega
    have e10 : ((b : Int) == 10) = false := by simp; omega
    have e11 : ((b : Int) == 11) = false := by simp; omega
    go_enter Tryz.func191, Tryz.ntmps191
    go_wp2
    go_ret
    rw [h0]
    exact ⟨rfl, rfl⟩
  all_goals
    go_enter Tryz.func191, Tryz.ntmps191
    go_wp2
    go_ret
    exact ⟨rfl, rfl⟩
section
variable {w w' : World} {g : Nat} {P : List ByteArray} {main : ByteArray} {F F0 : List (Int × Nat)} {M : GM} {er : Int}
set_option maxRecDepth 100000 in
set_option maxHeartbeats 1000000 in
theorem counted_any (b : Nat) (hb : b < 32) (h : RM w g P main F M er) (h24 : M.wait.length ≤ 24) :
    Calls Tryz.prog 185 #[.pointer (some ⟨g, 0, none⟩), .int .i64 (b : Int)] w fun e w' => e = .returned (.tuple #[]) ∧ RM w' g P main F M (if er = 0 then cntE b M.wait.length else er) ∧ Below g w w' := by
  have HRM := Lib.hid h
  obtain ⟨ρ, Ap, cp, Ai, ci, Aa, ca, Aw, cw, Al, cl, hM⟩ := h
  have c4 := hM.rc.c 4 _ rfl
  have hlt := hM.rc.lt
  obtain ⟨m, hm⟩ : ∃ m, M.wait.length = m := ⟨_, rfl⟩
  rw [hm] at c4 h24 ⊢
  have HM := Lib.hid hm
  obtain ⟨R, hR⟩ : ∃ R, (if er = 0 then cntE b m else er) = R := ⟨_, rfl⟩
  rw [hR]
  have HR := Lib.hid hR
  have HT := Lib.hid fun W => Takes_any b W hb
  have HW := Lib.hid fun e1 W (h : RM W g P main F M er) => wrong_any e1 h
  clear hM hm hR
  obtain ⟨t, ht⟩ : ∃ t, takesR b = t := ⟨_, rfl⟩
  rw [ht] at HT
  have HTT := Lib.hid ht
  clear ht
  go_enter Tryz.func185, Tryz.ntmps185
  go_wp2_with fail
  go_quiet ((go_at_call 191; exact quiet_left (HT.out _)))
  have hRM2 := HRM.out.below (bdrewN (Below.refl _ w) nq)
  have hBB : Below g w (w.drewN nq) := (bdrewN (Below.refl w.heap.size w) nq).mono (Nat.le_of_lt hlt)
  go_wp2_with (go_at_call 184; refine (HW.out _ _ hRM2).mono ?_; rintro e w1 ⟨rfl, hr, hb1⟩)
  all_goals
    go_end0
    rw [← HR.out]
    have ht := HTT.out
    clear HRM HM HR HT HW c4 HTT
    first
      | (refine ⟨rfl, cast (congrArg (fun z => RM w1 g P main F M (if er = 0 then z else er)) ?_) hr, hBB.trans hb1⟩
         clear hr hb1 hBB hRM2
         unfold cntE
         rw [ht]
         first | (simp_all; done) | (simp_all; omega))
      | (refine ⟨rfl, cast (congrArg (fun z => RM (w.drewN nq) g P main F M z) ?_) hRM2, hBB⟩
         by_cases hz : er = 0
         · rw [if_pos hz, hz]
           clear hBB hRM2 hz
           unfold cntE
           rw [ht]
           first | (simp_all; done) | (simp_all; omega) | skip
         · rw [if_neg hz])
end
end Go.Proofs.YtdfkbbcoolgfiaaGreat

namespace Go.Proofs.YtdfkbbcoolgfiaaGreat
open Go.RowKit Go.BigFrame

/-- The machine, the row of numbers that wait told. -/
def RW (w : World) (g : Nat) (P : List ByteArray) (main : ByteArray) (F : List (Int × Nat)) (M : GM) (er : Int) (Aw : Option Addr) (cw : Nat) : Prop :=
  ∃ ρ Ap cp Ai ci Aa ca Al cl, RAt w g P main F M er ρ Ap cp Ai ci Aa ca Aw cw Al cl
theorem RW.rm {w : World} {g : Nat} {P : List ByteArray} {main : ByteArray} {F : List (Int × Nat)} {M : GM} {er : Int} {Aw : Option Addr} {cw : Nat} (h : RW w g P main F M er Aw cw) : RM w g P main F M er := by
  obtain ⟨ρ, Ap, cp, Ai, ci, Aa, ca, Al, cl, h⟩ := h
  exact ⟨ρ, Ap, cp, Ai, ci, Aa, ca, Aw, cw, Al, cl, h⟩
theorem RM.rw {w : World} {g : Nat} {P : List ByteArray} {main : ByteArray} {F : List (Int × Nat)} {M : GM} {er : Int} (h : RM w g P main F M er) : ∃ Aw cw, RW w g P main F M er Aw cw := by
  obtain ⟨ρ, Ap, cp, Ai, ci, Aa, ca, Aw, cw, Al, cl, h⟩ := h
  exact ⟨Aw, cw, ρ, Ap, cp, Ai, ci, Aa, ca, Al, cl, h⟩
theorem RW.below {w w' : World} {g : Nat} {P : List ByteArray} {main : ByteArray} {F : List (Int × Nat)} {M : GM} {er : Int} {Aw : Option Addr} {cw : Nat} (h : RW w g P main F M er Aw cw) (hb : Below w.heap.size w w') : RW w' g P main F M er Aw cw := by
  obtain ⟨ρ, Ap, cp, Ai, ci, Aa, ca, Al, cl, h⟩ := h
  exact ⟨ρ, Ap, cp, Ai, ci, Aa, ca, Al, cl, h.below hb⟩
/-- What an operator that draws leaves. -/
def GP (g : Nat) (P : List ByteArray) (main : ByteArray) (F : List (Int × Nat)) (Aw : Option Addr) (cw : Nat) (w : World) (r : GR) (e : Ending) (w' : World) : Prop :=
  e = .returned (.tuple #[]) ∧ Below g w w' ∧ match r with
    | .bad er => er ≠ 0 ∧ ∃ M', RW w' g P main F M' er Aw cw
    | .ok M' => RW w' g P main F M' 0 Aw cw
section
variable {w w' w0 : World} {g : Nat} {P : List ByteArray} {main : ByteArray} {F F0 : List (Int × Nat)} {M : GM} {er : Int}
/-- Another path and another place. -/
theorem RAt.lay {ρ : Nat → Nat} {Ap Ai Aa Aw Al A : Option Addr} {cp ci ca cw cl c n : Nat} {L : List Sg} (h : RAt w0 g P main F M er ρ Ap cp Ai ci Aa ca Aw cw Al cl) (hb : Below w0.heap.size w0 w)
    (hs : Sl w 5 A n (sgs L)) (hn : L.length = n) (hnc : n ≤ c) (hA : ∀ b off, A = some ⟨b, off, none⟩ → w0.heap.size ≤ b) (x y : Int) :
    RW (((w.setCell ⟨g, 7, none⟩ (.slice A n c)).setCell ⟨g, 5, none⟩ (.int .i64 x)).setCell ⟨g, 6, none⟩ (.int .i64 y)) g P main F { M with l := L, x := x, y := y } er Aw cw := by
  subst hn
  obtain ⟨ρ', hr⟩ := h.rr.setL hb h.rc.lt hs hA
  have h1 := (((h.rc.below hb).set 7 (.slice A L.length c) (by simp [rcv])).set 5 (.int .i64 x) (by simp [rcv])).set 6 (.int .i64 y) (by simp [rcv])
  exact ⟨ρ', Ap, cp, Ai, ci, Aa, ca, A, c, h1, ((hr.own1 set_own).own1 set_own).own1 set_own, hnc⟩
theorem wrong_w {Aw : Option Addr} {cw : Nat} (e1 : Int) (h : RW w g P main F M 0 Aw cw) :
    Calls Tryz.prog 184 #[.pointer (some ⟨g, 0, none⟩), .int .i64 e1] w fun e w' => e = .returned (.tuple #[]) ∧ RW w' g P main F M e1 Aw cw ∧ Below g w w' := by
  obtain ⟨ρ, Ap, cp, Ai, ci, Aa, ca, Al, cl, h⟩ := h
  refine (wrong_first g _ e1 w h.rc rfl).mono ?_; rintro e w' ⟨rfl, rfl⟩
  exact ⟨rfl, ⟨ρ, Ap, cp, Ai, ci, Aa, ca, Al, cl, h.put 12 (.int .i64 e1) M e1 rfl rfl (by omega) rfl⟩, (Below.refl g w).setCell (p := ⟨g, 12, none⟩) (Nat.le_refl g) _⟩
set_option maxHeartbeats 400000 in
theorem put_any40 {Aw : Option Addr} {cw : Nat} (L : List Sg) (e1 x y : Int) (A : Option Addr) (n c : Nat) (h : RW w0 g P main F M 0 Aw cw) (hb : Below w0.heap.size w0 w) (hs : Sl w 5 A n (sgs L)) (hn : L.length = n) (hnc : n ≤ c)
    (hA : ∀ b off, A = some ⟨b, off, none⟩ → w0.heap.size ≤ b) :
    Calls Tryz.prog 193 #[.pointer (some ⟨g, 0, none⟩), .slice A n c, .int .i64 e1, .int .i64 x, .int .i64 y] w
      (GP g P main F Aw cw w (if e1 = 0 then .ok { M with l := L, x := x, y := y } else .bad e1)) := by
  by_cases he : e1 = 0
  · subst he
    rw [if_pos rfl]
    obtain ⟨ρ, Ap, cp, Ai, ci, Aa, ca, Al, cl, h⟩ := h
    have H := Lib.hid (h.lay hb hs hn hnc hA x y)
    have h2 := h.rc.below hb
    have c5 := h2.c 5 _ rfl
    have c6 := h2.c 6 _ rfl
    have c7 := h2.c 7 _ rfl
    have f5 := h2.nf 5
    have f6 := h2.nf 6
    have f7 := h2.nf 7
    clear h hs hA h2
    go_enter Tryz.func193, Tryz.ntmps193
    go_wp2
    go_end0
    refine ⟨rfl, ?_, H.out⟩
    exact (((Below.refl g w).setCell (p := ⟨g, 7, none⟩) (Nat.le_refl g) _).setCell (p := ⟨g, 5, none⟩) (Nat.le_refl g) _).setCell (p := ⟨g, 6, none⟩) (Nat.le_refl g) _
  · rw [if_neg he]
    have hz : (e1 != 0) = true := by simp [he]
    have HW := Lib.hid (wrong_w e1 (h.below hb))
    clear h hs hA
    go_enter Tryz.func193, Tryz.ntmps193
    go_wp2_with fail
    refine HW.out.mono ?_; rintro e w1 ⟨rfl, hr, hb1⟩
    go_wp2_with fail
    refine bodyPost_ret (results_none rfl _ _ _) rfl ?_
    exact ⟨rfl, hb1, he, M, hr⟩
set_option maxHeartbeats 400000 in
theorem wide_any40 {Aw : Option Addr} {cw : Nat} (v : Int) (h : RW w g P main F M 0 Aw cw) :
    Calls Tryz.prog 188 #[.pointer (some ⟨g, 0, none⟩), .int .i64 v] w (GP g P main F Aw cw w (widthG M v)) := by
  have HRM := Lib.hid h
  obtain ⟨ρ, Ap, cp, Ai, ci, Aa, ca, Al, cl, h⟩ := h
  have c9 := h.rc.c 9 _ rfl
  have c8 := h.rc.c 8 _ rfl
  have f8 := h.rc.nf 8
  have H : Hid (RW _ g P main F { M with wide := v } 0 Aw cw) := Lib.hid ⟨ρ, Ap, cp, Ai, ci, Aa, ca, Al, cl, h.put 8 (.int .i64 v) { M with wide := v } 0 rfl rfl (by omega) rfl⟩
  clear h
  obtain ⟨d, hd⟩ : ∃ d, M.drawn = d := ⟨_, rfl⟩
  rw [hd] at c9
  cases d
  · by_cases hv : v < 0 ∨ 8191 < v
    · have HR : widthG M v = .bad 2 := by unfold widthG; rw [hd, if_neg (by simp), if_pos hv]
      rw [HR]
      rcases hv with hv | hv
      · go_enter Tryz.func188, Tryz.ntmps188
        go_wp2_with fail
        refine (wrong_w 2 HRM.out).mono ?_; rintro e w1 ⟨rfl, hr, hb1⟩
        go_wp2_with fail
        go_end0
        exact ⟨rfl, hb1, by omega, M, hr⟩
      · have hv0 : ¬ v < 0 := by omega
        go_enter Tryz.func188, Tryz.ntmps188
        go_wp2_with fail
        refine (wrong_w 2 HRM.out).mono ?_; rintro e w1 ⟨rfl, hr, hb1⟩
        go_wp2_with fail
        go_end0
        exact ⟨rfl, hb1, by omega, M, hr⟩
    · have HR : widthG M v = .ok { M with wide := v } := by unfold widthG; rw [hd, if_neg (by simp), if_neg hv]
      rw [HR]
      clear hd
      have hv0 : ¬ v < 0 := by omega
      have hv1 : ¬ 8191 < v := by omega
      go_enter Tryz.func188, Tryz.ntmps188
      go_wp2_with fail
      go_end0
      exact ⟨rfl, (Below.refl g w).setCell (p := ⟨g, 8, none⟩) (Nat.le_refl g) _, H.out⟩
  · have HR : widthG M v = .bad 3 := by unfold widthG; rw [hd, if_pos rfl]
    rw [HR]
    go_enter Tryz.func188, Tryz.ntmps188
    go_wp2_with fail
    refine (wrong_w 3 HRM.out).mono ?_; rintro e w1 ⟨rfl, hr, hb1⟩
    go_wp2_with fail
    go_end0
    exact ⟨rfl, hb1, by omega, M, hr⟩
set_option maxRecDepth 100000 in
set_option maxHeartbeats 1000000 in
theorem line_any40 {Aw : Option Addr} {cw : Nat} (dx dy : Int) (h : RW w g P main F M 0 Aw cw) (hok : GOK M) (h1 : -33000 ≤ dx ∧ dx ≤ 33000) (h2 : -33000 ≤ dy ∧ dy ≤ 33000) :
    Calls Tryz.prog 194 #[.pointer (some ⟨g, 0, none⟩), .int .i64 dx, .int .i64 dy] w (GP g P main F Aw cw w (lineG M dx dy)) := by
  have HRM := Lib.hid h
  obtain ⟨ρ, Ap, cp, Ai, ci, Aa, ca, Al, cl, h⟩ := h
  obtain ⟨⟨L, er⟩, hE⟩ : ∃ E, onL M.l ⟨2, M.x + dx, M.y + dy, 0, 0⟩ = E := ⟨_, rfl⟩
  have hR : lineG M dx dy = if er = 0 then .ok { M with l := L, x := M.x + dx, y := M.y + dy } else .bad er := by
    unfold lineG; rw [takeG_on M _ (.inr ⟨rfl, rfl, rfl⟩), hE]
  obtain ⟨R, hRR⟩ : ∃ R, lineG M dx dy = R := ⟨_, rfl⟩
  rw [hRR] at hR ⊢
  have HR := Lib.hid hR
  clear hRR
  have c5 := h.rc.c 5 _ rfl
  have c6 := h.rc.c 6 _ rfl
  have c7 := h.rc.c 7 _ rfl
  have hlt := h.rc.lt
  have hx := hok.x
  have hy := hok.y
  have hl3 := (mayB_from hok.may).2
  have hsl := h.rr.hl
  have wr1 : IntKind.i64.wrap (M.x + dx) = M.x + dx := IntWalk.i64_in _ (by omega)
  have wr2 : IntKind.i64.wrap (M.y + dy) = M.y + dy := IntWalk.i64_in _ (by omega)
  have HE := Lib.hid hE
  have HOK := Lib.hid hok
  clear h hok hR hE
  go_enter Tryz.func194, Tryz.ntmps194
  go_wp2_with fail
  go_quiet (fail)
  go_wp2_with fail
  have B0 : Below w.heap.size w (w.drewN nq) := bdrewN (Below.refl _ _) _
  refine (ref_Add_any Al M.l.length cl M.l ⟨2, M.x + dx, M.y + dy, 0, 0⟩ (L, er) _ (by omega) (hsl.below B0) HE.out).mono ?_; rintro e w1 ⟨A1, c1, rfl, hown1, hb1⟩
  have hB1 : Below w.heap.size w w1 := btr B0 hb1
  have HP := Lib.hid (put_any40 (w0 := w) (w := w1) L er (M.x + dx) (M.y + dy) A1 L.length c1 HRM.out hB1 (own_sl hown1) rfl (own_cap hown1) (fun b off e => own_apart hown1 b off e))
  rw [← HR.out] at HP
  have hBB : Below g w w1 := hB1.mono (Nat.le_of_lt hlt)
  clear hown1 hb1 hB1 hsl
  go_wp2_with fail
  refine HP.out.mono ?_; rintro e w2 ⟨rfl, hb2, hr2⟩
  go_wp2_with fail
  go_end0
  exact ⟨rfl, hBB.trans hb2, hr2⟩
end
end Go.Proofs.YtdfkbbcoolgfiaaGreat
