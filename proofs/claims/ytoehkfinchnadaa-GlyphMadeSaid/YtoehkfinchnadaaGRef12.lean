/- The reference's Run: the walk. -/
import Derived.Test.YtoehkfinchnadaaGRef11
namespace Go.Proofs.Ytoehkfinchnadaa
open Go.RowKit Go.BigFrame

theorem bel_drewN {b : Nat} {w w' : World} (h : Below b w w') (n : Nat) : Below b w (w'.drewN n) := h.trans ⟨rfl, rfl, rfl, Nat.le_refl _, fun _ _ => rfl⟩
def boolV : Value → Bool | .bool b => b | _ => true
def lenV : Value → Nat | .slice _ n _ => n | _ => 0
def measR (g : Nat) (w : World) : Nat :=
  if intOf ((w.cell? ⟨g, 12, none⟩).getD (.int .i64 1)) = 0 ∧ boolV ((w.cell? ⟨g, 11, none⟩).getD (.bool true)) = false then
    1 + (1000 - (intOf ((w.cell? ⟨g, 10, none⟩).getD (.int .i64 0))).toNat) * 25 + (24 - lenV ((w.cell? ⟨g, 4, none⟩).getD (.int .i64 0))) else 0
theorem measR_run {w : World} {g : Nat} {P : List ByteArray} {main : ByteArray} {F : List (Int × Nat)} {M : GM} (h : RM w g P main F M 0) (ho : M.over = false) : measR g w = measM M := by
  obtain ⟨ρ, Ap, cp, Ai, ci, Aa, ca, Aw, cw, Al, cl, h⟩ := h
  have c12 := h.rc.c 12 _ rfl
  have c11 := h.rc.c 11 _ rfl
  have c10 := h.rc.c 10 _ rfl
  have c4 := h.rc.c 4 _ rfl
  unfold measR measM
  rw [c12, c11, c10, c4, ho]
  simp [intOf, boolV, lenV]
theorem measR_over {w : World} {g : Nat} {P : List ByteArray} {main : ByteArray} {F : List (Int × Nat)} {M : GM} (h : RM w g P main F M 0) (ho : M.over = true) : measR g w = 0 := by
  obtain ⟨ρ, Ap, cp, Ai, ci, Aa, ca, Aw, cw, Al, cl, h⟩ := h
  have c11 := h.rc.c 11 _ rfl
  unfold measR
  rw [c11, ho]
  simp [boolV]
theorem measR_bad {w : World} {g : Nat} {er : Int} (h : RX w g er) (he : er ≠ 0) : measR g w = 0 := by
  unfold measR
  rw [h.2]
  simp [intOf, he]
theorem LRel.less {w : World} {g : Nat} {P : List ByteArray} {main : ByteArray} {R : GR} {M : GM} (h : LRel g P main R (measM M) w) : measR g w < measM M := by
  have h1 : 1 ≤ measM M := by unfold measM; omega
  rcases h with ⟨F, M', hr, _, _, ho, _, hm⟩ | ⟨F, M', hr, _, ho, _⟩ | ⟨er, he, hx, _⟩
  · rw [measR_run hr ho]; exact hm
  · rw [measR_over hr ho]; omega
  · rw [measR_bad hx he]; omega
theorem LRel.any {w : World} {g : Nat} {P : List ByteArray} {main : ByteArray} {R : GR} {μ : Nat} (h : LRel g P main R μ w) : ∃ μ, LRel g P main R μ w := ⟨μ, h⟩
/-- Where Run begins. -/
theorem beg_rel {w w' : World} {p : ByteArray} {e : Ending} (h : BegP w p e w') : e = .returned (.pointer (some ⟨w.heap.size, 0, none⟩)) ∧ Below w.heap.size w w' ∧ ∃ (P : List ByteArray) (main : ByteArray) (R : GR) (μ : Nat), RunG (bl p) = endG R ∧ P.length ≤ 16 ∧ (∀ q ∈ P, q.size ≤ 1000000) ∧ main.size ≤ 1000000 ∧ LRel w.heap.size P main R μ w' := by
  obtain ⟨he, hb, P, main, er, hs, hP, ⟨hq, hm⟩, hr⟩ := h
  refine ⟨he, hb, P, main, ?_⟩
  by_cases h0 : er = 0
  · subst h0
    rw [if_pos rfl] at hr
    refine ⟨kontF P main [(-1, 0)] startG, measM startG + 1, ?_, hP, hq, hm, .inl ⟨_, _, hr, ⟨by simp, by simp, fun f hf => ?_⟩, start_ok, rfl, rfl, Nat.lt_succ_self _⟩⟩
    · unfold RunG; rw [hs]; simp only [if_true]
      congr 1
    · rw [List.mem_singleton] at hf; subst hf
      exact ⟨.inl (by simp only; omega), Nat.zero_le _⟩
  · rw [if_neg h0] at hr
    refine ⟨.bad er, 0, ?_, hP, hq, hm, .inr (.inr ⟨er, h0, hr, rfl⟩)⟩
    unfold RunG; rw [hs]; simp only; rw [if_neg h0]; rfl
theorem pc_size {P : List ByteArray} {main : ByteArray} {f : Int × Nat} (hq : ∀ q ∈ P, q.size ≤ 1000000) (hm : main.size ≤ 1000000) : (pcB P main f).size ≤ 1000000 := by
  unfold pcB
  split
  · exact hm
  · cases h : P[f.1.toNat]? with
    | none => simp
    | some q => exact hq q (List.mem_of_getElem? h)
set_option maxRecDepth 100000 in
set_option maxHeartbeats 2000000 in
theorem ref_Run_any (p : ByteArray) (w : World) (hp : p.size ≤ 1000000) :
    Calls Try.prog 7 #[.string p] w fun e w' => ∃ (L : List Sg) (wd er : Int) (A : Option Addr) (n c : Nat), e = .returned (.tuple #[.slice A n c, .int .i64 wd, .int .i64 er]) ∧ RunG (bl p) = ((L, wd), er) ∧ L.length = n ∧ n ≤ c ∧
      Sl w' 5 A n (sgs L) ∧ Below w.heap.size w w' := by
  go_enter Try.func7, Try.ntmps7
  go_wp2_with fail
  refine (begin_any p w hp).mono ?_; rintro e w1 hbeg
  obtain ⟨rfl, hb1, P, main, R, μ0, hRG, hP, hq, hm, hL⟩ := beg_rel hbeg
  have HRG := Lib.hid hRG
  have HQ := Lib.hid hq
  have HL := Lib.hid hL
  clear hbeg hRG hq hL
  obtain ⟨g, hg⟩ : ∃ g, w.heap.size = g := ⟨_, rfl⟩
  rw [hg] at HL hb1 ⊢
  have HG := Lib.hid hg
  clear hg
  go_wp2_with fail
  go_loopw [6] (fun _ wr => ∃ μ, Hid (LRel g P main R μ wr) ∧ Below g w wr) (fun _ wr => measR g wr)
  case atStart => exact ⟨μ0, HL, hb1⟩
  case round =>
    obtain ⟨μ, hLR, hbr⟩ := hrel
    clear HL hb1
    rcases hLR.out with ⟨F, M, hr, hFs, hok, hov, hR, hmu⟩ | ⟨F, M, hr, hok, hov, hR⟩ | ⟨er, he, hx, hR⟩
    · obtain ⟨F0, ⟨i, a⟩, rfl⟩ := split_last hFs.n1
      have hmr := measR_run hr hov
      have HN := Lib.hid (next_any g P main F0 i a M 0 (pcB P main (i, a)) wr hr (hFs.ok (i, a) (by simp)).1.pc (pc_size HQ.out hm) (hFs.ok (i, a) (by simp)).2 (by have := hFs.n5; simp at this; omega))
      have hts : (pcB P main (i, a)).size ≤ 1000000 := pc_size HQ.out hm
      have HRR := Lib.hid hR
      have HFS := Lib.hid hFs
      have HOK := Lib.hid hok
      obtain ⟨ρ, Ap, cp, Ai, ci, Aa, ca, Aw, cw, Al, cl, hM⟩ := hr
      have c12 := hM.rc.c 12 _ rfl
      have c11 := hM.rc.c 11 _ rfl
      rw [hov] at c11
      have HOV := Lib.hid hov
      clear hM hR hFs hok hov hLR hmu
      go_wp2_with fail
      refine HN.out.mono ?_; rintro e w2 ⟨hb2, hn2⟩
      have hbb := hbr.trans hb2
      by_cases hlt : a < (pcB P main (i, a)).size
      · rw [if_pos hlt] at hn2
        obtain ⟨rfl, hr2⟩ := hn2
        obtain ⟨b, hb⟩ : ∃ b, byt (pcB P main (i, a)) a = b := ⟨_, rfl⟩
        rw [hb]
        have HR2 := Lib.hid hr2
        obtain ⟨ρ2, Ap2, cp2, Ai2, ci2, Aa2, ca2, Aw2, cw2, Al2, cl2, hM2⟩ := hr2
        have d12 := hM2.rc.c 12 _ rfl
        clear hM2
        by_cases h32 : 32 ≤ b
        · have HC := Lib.hid (number_step i a b HR2.out HFS.out HOK.out HOV.out HRR.out hlt hts hb h32)
          have hd : decide ((b : Int) ≥ 32) = true := by simp; omega
          go_wp2_with fail
          refine HC.out.mono ?_; rintro e w3 ⟨rfl, hb3, hl3⟩
          have HL3 := Lib.hid hl3
          have hless := hl3.less
          clear hl3
          go_wp2_with fail
          go_roundw
          case rel => exact ⟨_, HL3, hbb.trans hb3⟩
          case measure => rw [hmr]; exact hless
        · have HC := Lib.hid (do_step i a b HR2.out HFS.out HOK.out HOV.out hP HRR.out hlt hb (by omega))
          have hd : decide ((b : Int) ≥ 32) = false := by simp; omega
          go_wp2_with fail
          refine HC.out.mono ?_; rintro e w3 ⟨rfl, hb3, hl3⟩
          have HL3 := Lib.hid hl3
          have hless := hl3.less
          clear hl3
          go_wp2_with fail
          go_roundw
          case rel => exact ⟨_, HL3, hbb.trans hb3⟩
          case measure => rw [hmr]; exact hless
      · rw [if_neg hlt] at hn2
        obtain ⟨rfl, hr2⟩ := hn2
        simp only [if_true] at hr2
        have hR4 : R = .bad 4 := by
          rw [HRR.out, kontF_snoc, restF_is, bl_drop0 (by have := (HFS.out.ok (i, a) (by simp)).2; simp only; omega), kont_end HOV.out]
        have HX := Lib.hid (show LRel g P main R (measM M) w2 from .inr (.inr ⟨4, by omega, hr2.x, hR4⟩))
        have hless := HX.out.less
        obtain ⟨hx1, hx2⟩ := hr2.x
        clear hr2
        go_wp2_with fail
        go_roundw
        case rel => exact ⟨_, HX, hbb⟩
        case measure => rw [hmr]; exact hless
    · have HR2 := Lib.hid (show RunG (bl p) = ((M.l, M.wide), 0) by rw [HRG.out, hR]; rfl)
      obtain ⟨ρ, Ap, cp, Ai, ci, Aa, ca, Aw, cw, Al, cl, hM⟩ := hr
      have c12 := hM.rc.c 12 _ rfl
      have c11 := hM.rc.c 11 _ rfl
      have c7 := hM.rc.c 7 _ rfl
      have c8 := hM.rc.c 8 _ rfl
      rw [hov] at c11
      have HM := Lib.hid hM
      clear hM hR hov hLR hok
      go_wp2_with fail
      go_quiet (fail)
      go_wp2_with fail
      go_ret3
      exact ⟨M.l, M.wide, 0, Al, _, cl, rfl, HR2.out, rfl, HM.out.lc, HM.out.rr.hl.below (bdrewN (Below.refl _ _) _), by rw [HG.out]; exact bel_drewN hbr nq⟩
    · have HR2 := Lib.hid (show RunG (bl p) = (([], 0), er) by rw [HRG.out, hR]; rfl)
      obtain ⟨hx1, hx2⟩ := hx
      have hz0 : (er == 0) = false := by simp [he]
      have hz1 : (er != 0) = true := by simp [he]
      clear hR hLR
      go_wp2_with fail
      go_quiet (fail)
      go_wp2_with fail
      go_ret3
      exact ⟨[], 0, er, none, 0, 0, rfl, HR2.out, rfl, Nat.le_refl _, Sl.nil_, by rw [HG.out]; exact bel_drewN hbr nq⟩
end Go.Proofs.Ytoehkfinchnadaa
