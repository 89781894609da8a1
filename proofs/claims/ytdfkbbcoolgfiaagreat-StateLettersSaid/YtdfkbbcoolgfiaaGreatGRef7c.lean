/- The reference's machine: a piece that is called. -/
import Derived.Test.YtdfkbbcoolgfiaaGreatMG3
import Derived.Deep.RegionLaw
namespace Go.Proofs.YtdfkbbcoolgfiaaGreat
open Go.RowKit Go.BigFrame

section
variable {w w' w0 : World} {g : Nat} {P : List ByteArray} {main : ByteArray} {F F0 : List (Int × Nat)} {M : GM} {er : Int}
set_option maxRecDepth 100000 in
set_option maxHeartbeats 20000000 in
theorem call_any40 (n : Nat) (q : Int) (h : RM w g P main F M 0) (hok : GOK M) (hn : M.wait.length = n + 1) (hq : M.wait[n]?.getD 0 = q) (hF : F.length ≤ 5) (_hP : P.length ≤ 16) :
    Calls Tryz.prog 186 #[.pointer (some ⟨g, 0, none⟩)] w fun e w' => e = .returned (.tuple #[]) ∧ Below g w w' ∧
      if q < 0 ∨ (P.length : Int) ≤ q then RM w' g P main F { M with wait := M.wait.dropLast } 3 else if 4 < F.length then RM w' g P main F { M with wait := M.wait.dropLast } 5 else RM w' g P main (F ++ [(q, 0)]) { M with wait := M.wait.dropLast } 0 := by
  obtain ⟨ρ, Ap, cp, Ai, ci, Aa, ca, Aw, cw, Al, cl, h⟩ := h
  have hn24 := hok.w24
  have hw0 := h.rr.hw
  rw [hn] at hn24 hw0
  obtain ⟨kb, rfl, hkg, hks⟩ := own_some hw0 (by omega)
  have c4 := h.rc.c 4 _ rfl
  rw [hn] at c4
  have f4 := h.rc.nf 4
  have k0 := hw0.cellAt n (by omega)
  rw [show (ints M.wait)[n]? = some (.int .i64 q) by
    rw [← hq]; simp [ints, List.getElem?_eq_getElem (show n < M.wait.length by omega)]] at k0
  have hcap := own_cap hw0
  have hne : g ≠ kb := by omega
  have hqb : -33000 ≤ q ∧ q ≤ 33000 := by have := VB.of hok.wv n; rw [hq] at this; exact this
  have HPOP := Lib.hid (fun z => (h.below (bdrewN (Below.refl w.heap.size w) z)).pop hn)
  have hlt := h.rc.lt
  have hz1 : (((n : Int) + 1) - 1) = (n : Int) := by omega
  have hBB : ∀ z, Below g w (((w.drewN z).setCell ⟨g, 4, none⟩ (.slice (some ⟨kb, 0, none⟩) n cw)).drew) := fun z => bel_drew ((((bdrewN (Below.refl w.heap.size w) z).mono (Nat.le_of_lt hlt))).setCell (p := ⟨g, 4, none⟩) (Nat.le_refl g) _)
  have c0 := h.rc.c 0 _ rfl
  clear h hw0 hn hok hq
  obtain ⟨k, hk⟩ : ∃ k, F.length = k := ⟨_, rfl⟩
  rw [hk] at hF ⊢
  have HK := Lib.hid hk
  clear hk
  obtain ⟨M1, hM1⟩ : ∃ M1 : GM, M1 = { M with wait := M.wait.dropLast } := ⟨_, rfl⟩
  rw [← hM1] at HPOP
  simp only [← hM1]
  clear hM1
  by_cases h3 : q < 0 ∨ (P.length : Int) ≤ q
  · simp only [if_pos h3]
    rcases hq0 : decide (q < 0) with _ | _
    · have hd1 : decide (q < 0) = false := hq0
      have hq1 : ¬ q < 0 := by simpa using hq0
      have hd2 : decide (q ≥ (P.length : Int)) = true := by simp; omega
      have hd3 : decide ((P.length : Int) ≤ q) = true := by simp; omega
      clear h3 hq0
      go_enter Tryz.func186, Tryz.ntmps186
      go_wp2_with fail
      go_quiet (fail)
      go_wp2_with fail
      go_region
      all_goals
        go_wp2_with fail
        refine (wrong_any 3 ((HPOP.out nq).below (bdrew (Below.refl _ _)))).mono ?_; rintro e w1 ⟨rfl, hr, hb1⟩
        simp only [if_true] at hr
        go_wp2_with fail
        go_end0
        exact ⟨rfl, (hBB nq).trans hb1, hr⟩
    · have hd1 : decide (q < 0) = true := hq0
      clear h3 hq0
      go_enter Tryz.func186, Tryz.ntmps186
      go_wp2_with fail
      go_quiet (fail)
      go_wp2_with fail
      go_region
      all_goals
        go_wp2_with fail
        refine (wrong_any 3 ((HPOP.out nq).below (bdrew (Below.refl _ _)))).mono ?_; rintro e w1 ⟨rfl, hr, hb1⟩
        simp only [if_true] at hr
        go_wp2_with fail
        go_end0
        exact ⟨rfl, (hBB nq).trans hb1, hr⟩
  · simp only [if_neg h3]
    have hd1 : decide (q < 0) = false := by simp; omega
    have hd2 : decide (q ≥ (P.length : Int)) = false := by simp; omega
    have hd3 : decide ((P.length : Int) ≤ q) = false := by simp; omega
    by_cases h4 : 4 < k
    · simp only [if_pos h4]
      go_enter Tryz.func186, Tryz.ntmps186
      go_wp2_with fail
      go_quiet (fail)
      go_wp2_with fail
      go_region
      all_goals
        have hR1 := HPOP.out (nq + 1)
        have hB1 : Below g w ((w.drewN (nq + 1)).setCell ⟨g, 4, none⟩ (.slice (some ⟨kb, 0, none⟩) n cw)) := hBB nq
        have c0' : ((w.drewN (nq + 1)).setCell ⟨g, 4, none⟩ (.slice (some ⟨kb, 0, none⟩) n cw)).cell? ⟨g, 0, none⟩ = some (.slice Ap P.length cp) := cs_other (by omega) c0
        obtain ⟨w1, hw1⟩ : ∃ w1 : World, w1 = (w.drewN (nq + 1)).setCell ⟨g, 4, none⟩ (.slice (some ⟨kb, 0, none⟩) n cw) := ⟨_, rfl⟩
        rw [← hw1] at hR1 hB1 c0' ⊢
        clear hw1 HPOP hBB c0 c4 f4 k0
        have HR1 := Lib.hid hR1
        obtain ⟨ρ1, Ap1, cp1, Ai1, ci1, Aa1, ca1, Aw1, cw1, Al1, cl1, h1⟩ := hR1
        have c2 := h1.rc.c 2 _ rfl
        have c3 := h1.rc.c 3 _ rfl
        have f2 := h1.rc.nf 2
        have f3 := h1.rc.nf 3
        have hlt1 := h1.rc.lt
        rw [HK.out] at c2 c3
        have H1 := Lib.hid h1
        clear h1
        go_wp2_with fail
        refine (wrong_any 5 HR1.out).mono ?_; rintro e w2 ⟨rfl, hr, hb2⟩
        simp only [if_true] at hr
        go_wp2_with fail
        go_end0
        exact ⟨rfl, hB1.trans hb2, hr⟩
    · simp only [if_neg h4]
      go_enter Tryz.func186, Tryz.ntmps186
      go_wp2_with fail
      go_quiet (fail)
      go_wp2_with fail
      go_region
      all_goals
        have hR1 := HPOP.out (nq + 1)
        have hB1 : Below g w ((w.drewN (nq + 1)).setCell ⟨g, 4, none⟩ (.slice (some ⟨kb, 0, none⟩) n cw)) := hBB nq
        have c0' : ((w.drewN (nq + 1)).setCell ⟨g, 4, none⟩ (.slice (some ⟨kb, 0, none⟩) n cw)).cell? ⟨g, 0, none⟩ = some (.slice Ap P.length cp) := cs_other (by omega) c0
        obtain ⟨w1, hw1⟩ : ∃ w1 : World, w1 = (w.drewN (nq + 1)).setCell ⟨g, 4, none⟩ (.slice (some ⟨kb, 0, none⟩) n cw) := ⟨_, rfl⟩
        rw [← hw1] at hR1 hB1 c0' ⊢
        clear hw1 HPOP hBB c0 c4 f4 k0
        have HR1 := Lib.hid hR1
        obtain ⟨ρ1, Ap1, cp1, Ai1, ci1, Aa1, ca1, Aw1, cw1, Al1, cl1, h1⟩ := hR1
        have c2 := h1.rc.c 2 _ rfl
        have c3 := h1.rc.c 3 _ rfl
        have f2 := h1.rc.nf 2
        have f3 := h1.rc.nf 3
        have hlt1 := h1.rc.lt
        rw [HK.out] at c2 c3
        have H1 := Lib.hid h1
        clear h1
        have hfi : (fsI F).length = k := by rw [fsI_len, HK.out]
        have hfa : (fsA F).length = k := by rw [fsA_len, HK.out]
        have W1 : Wd w1 w1 g (rcv (.slice Ap1 P.length cp1) main (.slice Ai1 k ci1) (.slice Aa1 k ca1) (.slice Aw1 M1.wait.length cw1) M1 (.slice Al1 M1.l.length cl1) 0) P (fsI F) (fsA F) M1.wait M1.l (.slice Ai1 k ci1) (.slice Aa1 k ca1) (.slice Aw1 M1.wait.length cw1) Ap1 Al1 := by
          have h1 := H1.out.rc
          have h2 := H1.out.rr
          rw [HK.out] at h1 h2
          exact ⟨h1, ⟨_, h2⟩, Below.refl _ _⟩
        have hin : ∀ j, (Value.slice Ai1 k ci1).ownBlock = some j → j < w1.heap.size := fun j hj => own_in (W1.hi hfi) hj
        go_wp2_with fail
        clear HR1 c0' hd1 hd2 hd3 h3 hz1 hqb hlt hne hcap hks hkg hn24
        go_region_law (first
            | (refine step_app (by rfl) _ _ 28 (by rfl) (g + 1) ciT (by rfl) (Wd.hi (Wd.dr (Wd.al W1 _)) hfi) (ints [q]) (by rfl) (RLit.sl (w1 := w1) (RLit.dr (RLit.new (Nat.le_refl _)))) (oneCell_ints [q]) (by omega) (Wd.rc (Wd.dr (Wd.al W1 _))).lt ?_; intro A8 c8 w8 hown8 hg8 hat8; have W8 := Wd.appI (Wd.dr (Wd.al W1 _)) hfi hg8 hown8 hat8; have hs8 := W8.b.size; have hlt8 := W8.rc.lt; have d3 := W8.rc.c 3 _ rfl; have d2 := W8.rc.c 2 _ rfl; have e2 := W8.rc.nf 2; have e3 := W8.rc.nf 3)
            | (refine step_app (by rfl) _ _ 28 (by rfl) (g + 1) ciT (by rfl) (Wd.hi (Wd.dr (Wd.al (Wd.al W1 _) _)) hfi) (ints [q]) (by rfl) (RLit.sl (w1 := w1) (RLit.dr (RLit.al (RLit.new (Nat.le_refl _)) _))) (oneCell_ints [q]) (by omega) (Wd.rc (Wd.dr (Wd.al (Wd.al W1 _) _))).lt ?_; intro A8 c8 w8 hown8 hg8 hat8; have W8 := Wd.appI (Wd.dr (Wd.al (Wd.al W1 _) _)) hfi hg8 hown8 hat8; have lz := RLit.app (w1 := w1) (q := 0) (RLit.dr (RLit.new2 _)) hg8 hin; have hs8 := W8.b.size; have hlt8 := W8.rc.lt; have d3 := W8.rc.c 3 _ rfl; have d2 := W8.rc.c 2 _ rfl; have e2 := W8.rc.nf 2; have e3 := W8.rc.nf 3)
            | (refine step_app (by rfl) _ _ 28 (by rfl) (g + 1) ciT (by rfl) (Wd.hi (Wd.dr (Wd.al (Wd.al W1 _) _)) hfi) (ints [q]) (by rfl) (RLit.sl (w1 := w1) (RLit.dr (RLit.new2 _))) (oneCell_ints [q]) (by omega) (Wd.rc (Wd.dr (Wd.al (Wd.al W1 _) _))).lt ?_; intro A8 c8 w8 hown8 hg8 hat8; have W8 := Wd.appI (Wd.dr (Wd.al (Wd.al W1 _) _)) hfi hg8 hown8 hat8; have lz := RLit.app (w1 := w1) (q := 0) (RLit.dr (RLit.al (RLit.new (Nat.le_refl _)) _)) hg8 hin; have hs8 := W8.b.size; have hlt8 := W8.rc.lt; have d3 := W8.rc.c 3 _ rfl; have d2 := W8.rc.c 2 _ rfl; have e2 := W8.rc.nf 2; have e3 := W8.rc.nf 3)
            | (refine step_app (by rfl) _ _ 28 (by rfl) (g + 1) ciT (by rfl) (Wd.ha W8 hfa) (ints [0]) (by rfl) (RLit.sl (w1 := w1) lz) (oneCell_ints [0]) (by omega) (Wd.rc W8).lt ?_; intro A9 c9 w9 hown9 hg9 hat9; have W9 := Wd.appA W8 hfa hg9 hown9 hat9; have k2 := W9.rc.c 2 _ rfl; have k3 := W9.rc.c 3 _ rfl; have l2 := W9.rc.nf 2; have l3 := W9.rc.nf 3)
            | (refine step_app (by rfl) _ _ 28 (by rfl) (g + 1) ciT (by rfl) (Wd.ha (Wd.st W8 2 _ (by show 2 < 13; omega)) hfa) (ints [0]) (by rfl) (RLit.sl (w1 := w1) (RLit.st lz hlt1)) (oneCell_ints [0]) (by omega) (Wd.rc (Wd.st W8 2 _ (by show 2 < 13; omega))).lt ?_; intro A9 c9 w9 hown9 hg9 hat9; have W9 := Wd.appA (Wd.st W8 2 _ (by show 2 < 13; omega)) hfa hg9 hown9 hat9; have k2 := W9.rc.c 2 _ rfl; have k3 := W9.rc.c 3 _ rfl; have l2 := W9.rc.nf 2; have l3 := W9.rc.nf 3)
            | (refine step_app (by rfl) _ _ 28 (by rfl) (g + 1) ciT (by rfl) (Wd.ha (Wd.al W8 _) hfa) (ints [0]) (by rfl) (RLit.sl (w1 := w1) (RLit.new hs8)) (oneCell_ints [0]) (by omega) (Wd.rc (Wd.al W8 _)).lt ?_; intro A9 c9 w9 hown9 hg9 hat9; have W9 := Wd.appA (Wd.al W8 _) hfa hg9 hown9 hat9; have k2 := W9.rc.c 2 _ rfl; have k3 := W9.rc.c 3 _ rfl; have l2 := W9.rc.nf 2; have l3 := W9.rc.nf 3)
            | (refine step_app (by rfl) _ _ 28 (by rfl) (g + 1) ciT (by rfl) (Wd.ha (Wd.al (Wd.st W8 2 _ (by show 2 < 13; omega)) _) hfa) (ints [0]) (by rfl) (RLit.sl (w1 := w1) (RLit.new (by simpa [World.setCell] using hs8))) (oneCell_ints [0]) (by omega) (Wd.rc (Wd.al (Wd.st W8 2 _ (by show 2 < 13; omega)) _)).lt ?_; intro A9 c9 w9 hown9 hg9 hat9; have W9 := Wd.appA (Wd.al (Wd.st W8 2 _ (by show 2 < 13; omega)) _) hfa hg9 hown9 hat9; have k2 := W9.rc.c 2 _ rfl; have k3 := W9.rc.c 3 _ rfl; have l2 := W9.rc.nf 2; have l3 := W9.rc.nf 3)
            | (refine step_app (by rfl) _ _ 28 (by rfl) (g + 1) ciT (by rfl) (Wd.ha (Wd.st (Wd.al W8 _) 2 _ (by show 2 < 13; omega)) hfa) (ints [0]) (by rfl) (RLit.sl (w1 := w1) (RLit.st (RLit.new hs8) hlt1)) (oneCell_ints [0]) (by omega) (Wd.rc (Wd.st (Wd.al W8 _) 2 _ (by show 2 < 13; omega))).lt ?_; intro A9 c9 w9 hown9 hg9 hat9; have W9 := Wd.appA (Wd.st (Wd.al W8 _) 2 _ (by show 2 < 13; omega)) hfa hg9 hown9 hat9; have k2 := W9.rc.c 2 _ rfl; have k3 := W9.rc.c 3 _ rfl; have l2 := W9.rc.nf 2; have l3 := W9.rc.nf 3)
            | fail)
        all_goals
          have hlc := H1.out.lc
          go_wp2_with fail
          go_end0
          first
            | (have WF := Wd.st (Wd.st W9 2 (.slice A8 (k + 1) c8) (by show 2 < 13; omega)) 3 (.slice A9 (k + 1) c9) (by show 3 < 13; omega); exact ⟨rfl, hB1.trans WF.b, Wd.rm WF rfl HK.out hlc⟩)
            | (have WF := Wd.st W9 3 (.slice A9 (k + 1) c9) (by show 3 < 13; omega); exact ⟨rfl, hB1.trans WF.b, Wd.rm WF rfl HK.out hlc⟩)
            | skip
end
end Go.Proofs.YtdfkbbcoolgfiaaGreat
