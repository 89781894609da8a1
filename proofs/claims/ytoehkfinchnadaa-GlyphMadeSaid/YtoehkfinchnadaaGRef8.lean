/- The reference's machine: the way back out of a piece. -/
import Derived.Test.YtoehkfinchnadaaGRef7
namespace Go.Proofs.Ytoehkfinchnadaa
open Go.RowKit Go.BigFrame

section
variable {w w' w0 : World} {g : Nat} {P : List ByteArray} {main : ByteArray} {F F0 : List (Int × Nat)} {M : GM} {er : Int}
theorem ints_front (v : List Int) (z : Int) : ints v = (ints (v ++ [z])).take v.length := by
  rw [ints_snoc]
  have : v.length = (ints v).length := by simp [ints]
  rw [this]; simp
theorem RAt.unframed {ρ : Nat → Nat} {Ap Aw Al : Option Addr} {cp ci ca cw cl bi ba k : Nat} {i : Int} {a : Nat} (h : RAt w g P main (F0 ++ [(i, a)]) M er ρ Ap cp (some ⟨bi, 0, none⟩) ci (some ⟨ba, 0, none⟩) ca Aw cw Al cl) (hk : F0.length = k) :
    RM ((w.setCell ⟨g, 2, none⟩ (.slice (some ⟨bi, 0, none⟩) k ci)).setCell ⟨g, 3, none⟩ (.slice (some ⟨ba, 0, none⟩) k ca)) g P main F0 M er ∧ RM ((w.setCell ⟨g, 3, none⟩ (.slice (some ⟨ba, 0, none⟩) k ca)).setCell ⟨g, 2, none⟩ (.slice (some ⟨bi, 0, none⟩) k ci)) g P main F0 M er := by
  subst hk
  have hc := h.rc
  have hr := h.rr
  rw [snoc_len] at hc hr
  rw [fsI_snoc, fsA_snoc] at hr
  have hi := hr.hi
  have ha := hr.ha
  rw [List.length_append, fsI_len] at hi
  rw [List.length_append, fsA_len] at ha
  have oi : w.ownsRow (g + 1) 3 1 (.slice (some ⟨bi, 0, none⟩) F0.length ci) (fsI F0).length (ints (fsI F0)) := by
    rw [ints_front (fsI F0) i, fsI_len]; exact own_pop hi
  have oa : w.ownsRow (g + 1) 3 1 (.slice (some ⟨ba, 0, none⟩) F0.length ca) (fsA F0).length (ints (fsA F0)) := by
    rw [ints_front (fsA F0) (a : Int), fsA_len]; exact own_pop ha
  have h2 := (hr.popI oi (.inl rfl)).popA oa (.inl rfl)
  exact ⟨⟨ρ, Ap, cp, _, ci, _, ca, Aw, cw, Al, cl, (hc.set 2 _ (by simp [rcv])).set 3 _ (by simp [rcv]), (h2.own1 set_own).own1 set_own, h.lc⟩,
    ⟨ρ, Ap, cp, _, ci, _, ca, Aw, cw, Al, cl, (hc.set 3 _ (by simp [rcv])).set 2 _ (by simp [rcv]), (h2.own1 set_own).own1 set_own, h.lc⟩⟩
set_option maxRecDepth 100000 in
set_option maxHeartbeats 1000000 in
theorem back_none (i : Int) (a : Nat) (h : RM w g P main [(i, a)] M 0) :
    Calls Try.prog 27 #[.pointer (some ⟨g, 0, none⟩)] w fun e w' => e = .returned (.tuple #[]) ∧ Below g w w' ∧ RM w' g P main [(i, a)] M 3 := by
  have HRM := Lib.hid h
  obtain ⟨ρ, Ap, cp, Ai, ci, Aa, ca, Aw, cw, Al, cl, h⟩ := h
  have c2 := h.rc.c 2 _ rfl
  simp only [List.length_singleton] at c2
  clear h
  go_enter Try.func27, Try.ntmps27
  go_wp2_with fail
  refine (wrong_any 3 HRM.out).mono ?_; rintro e w1 ⟨rfl, hr, hb1⟩
  simp only [if_true] at hr
  go_wp2_with fail
  refine bodyPost_ret (results_none rfl _ _ _) rfl ?_
  exact ⟨rfl, hb1, hr⟩
set_option maxRecDepth 100000 in
set_option maxHeartbeats 1000000 in
theorem back_any40 (i : Int) (a : Nat) (h : RM w g P main (F0 ++ [(i, a)]) M 0) (h0 : 0 < F0.length) (hF : F0.length ≤ 10) :
    Calls Try.prog 27 #[.pointer (some ⟨g, 0, none⟩)] w fun e w' => e = .returned (.tuple #[]) ∧ Below g w w' ∧ RM w' g P main F0 M 0 := by
  have HRM := Lib.hid h
  obtain ⟨ρ, Ap, cp, Ai, ci, Aa, ca, Aw, cw, Al, cl, h⟩ := h
  obtain ⟨k, hk⟩ : ∃ k, F0.length = k := ⟨_, rfl⟩
  have c2 := h.rc.c 2 _ rfl
  have c3 := h.rc.c 3 _ rfl
  have f2 := h.rc.nf 2
  have f3 := h.rc.nf 3
  have hlt := h.rc.lt
  have hi := h.rr.hi
  have ha := h.rr.ha
  rw [fsI_len] at hi
  rw [fsA_len] at ha
  rw [snoc_len, hk] at c2 c3 hi ha
  rw [hk] at h0 hF
  obtain ⟨bi, rfl, hbi, _⟩ := own_some hi (by omega)
  obtain ⟨ba, rfl, hba, _⟩ := own_some ha (by omega)
  have hci := own_cap hi
  have hca := own_cap ha
  have HU := Lib.hid (fun q => (h.below (bdrewN (Below.refl w.heap.size w) q)).unframed hk)
  have hBD : ∀ q, Below g w (w.drewN q) := fun q => (bdrewN (Below.refl w.heap.size w) q).mono (Nat.le_of_lt hlt)
  have hk0 : ¬ k = 0 := by omega
  have hk1 : ((k : Int) == 0) = false := by simp; omega
  clear h hi ha HRM hk
  go_enter Try.func27, Try.ntmps27
  go_wp2_with fail
  go_region
  all_goals
    go_wp2_with fail
    go_end0
    refine ⟨rfl, ?_, ?_⟩
    · first
        | exact bel_drew (((Below.refl g w).setCell (p := ⟨g, 2, none⟩) (Nat.le_refl g) _).setCell (p := ⟨g, 3, none⟩) (Nat.le_refl g) _)
        | exact bel_drew (((Below.refl g w).setCell (p := ⟨g, 3, none⟩) (Nat.le_refl g) _).setCell (p := ⟨g, 2, none⟩) (Nat.le_refl g) _)
    · first
        | exact (HU.out 1).1
        | exact (HU.out 1).2
        | exact ((HU.out 0).1).below (bdrew (Below.refl _ _))
        | exact ((HU.out 0).2).below (bdrew (Below.refl _ _))
end
end Go.Proofs.Ytoehkfinchnadaa
