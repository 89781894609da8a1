/- The reference's machine: the next byte. -/
import Derived.Test.YtoehkfinchnadaaGRef1
namespace Go.Proofs.Ytoehkfinchnadaa
open Go.RowKit Go.BigFrame

section
variable {w w' : World} {g : Nat} {P : List ByteArray} {main : ByteArray} {F F0 : List (Int × Nat)} {M : GM} {er : Int}
theorem RM.lt (h : RM w g P main F M er) : g < w.heap.size := by
  obtain ⟨ρ, Ap, cp, Ai, ci, Aa, ca, Aw, cw, Al, cl, h⟩ := h
  exact h.rc.lt
theorem wrong_any (e1 : Int) (h : RM w g P main F M er) :
    Calls Try.prog 24 #[.pointer (some ⟨g, 0, none⟩), .int .i64 e1] w fun e w' => e = .returned (.tuple #[]) ∧ RM w' g P main F M (if er = 0 then e1 else er) ∧ Below g w w' := by
  obtain ⟨ρ, Ap, cp, Ai, ci, Aa, ca, Aw, cw, Al, cl, h⟩ := h
  by_cases h0 : er = 0
  · subst h0
    refine (wrong_first g _ e1 w h.rc rfl).mono ?_; rintro e w' ⟨rfl, rfl⟩
    rw [if_pos rfl]
    exact ⟨rfl, ⟨ρ, Ap, cp, Ai, ci, Aa, ca, Aw, cw, Al, cl, h.put 12 (.int .i64 e1) M e1 rfl rfl (by omega) rfl⟩, (Below.refl g w).setCell (p := ⟨g, 12, none⟩) (Nat.le_refl g) _⟩
  · refine (wrong_again g _ e1 er w h.rc rfl h0).mono ?_; rintro e w' ⟨rfl, rfl⟩
    rw [if_neg h0]
    exact ⟨rfl, ⟨ρ, Ap, cp, Ai, ci, Aa, ca, Aw, cw, Al, cl, h⟩, Below.refl _ _⟩
theorem fsI_snoc (F : List (Int × Nat)) (i : Int) (a : Nat) : fsI (F ++ [(i, a)]) = fsI F ++ [i] := by simp [fsI]
theorem fsA_snoc (F : List (Int × Nat)) (i : Int) (a : Nat) : fsA (F ++ [(i, a)]) = fsA F ++ [(a : Int)] := by simp [fsA]
theorem fsI_len (F : List (Int × Nat)) : (fsI F).length = F.length := by simp [fsI]
theorem fsA_len (F : List (Int × Nat)) : (fsA F).length = F.length := by simp [fsA]
theorem snoc_len {α : Type} (F : List α) (x : α) : (F ++ [x]).length = F.length + 1 := by simp
theorem RAt.below {ρ : Nat → Nat} {Ap Ai Aa Aw Al : Option Addr} {cp ci ca cw cl : Nat} (h : RAt w g P main F M er ρ Ap cp Ai ci Aa ca Aw cw Al cl) (hb : Below w.heap.size w w') : RAt w' g P main F M er ρ Ap cp Ai ci Aa ca Aw cw Al cl :=
  ⟨h.rc.below hb, h.rr.below hb, h.lc⟩
/-- The next place of the innermost frame. -/
theorem RAt.bump {i : Int} {a : Nat} {ρ : Nat → Nat} {Ap Ai Aw Al : Option Addr} {cp ci ca cw cl ba : Nat} (h : RAt w g P main (F0 ++ [(i, a)]) M er ρ Ap cp Ai ci (some ⟨ba, 0, none⟩) ca Aw cw Al cl) :
    RM (w.setCell ⟨ba, F0.length, none⟩ (.int .i64 ((a : Int) + 1))) g P main (F0 ++ [(i, a + 1)]) M er ∧ Below g w (w.setCell ⟨ba, F0.length, none⟩ (.int .i64 ((a : Int) + 1))) := by
  have hl : (F0 ++ [(i, a)]).length = F0.length + 1 := snoc_len _ _
  have hl2 : (F0 ++ [(i, a + 1)]).length = F0.length + 1 := snoc_len _ _
  have ho := h.rr.ha
  rw [fsA_len, hl] at ho
  have hgb : g + 1 ≤ ba := (ho.lt ba rfl).1
  obtain ⟨ho2, hg⟩ := ho.stored F0.length (.int .i64 ((a : Int) + 1))
  have e1 : (ints (fsA (F0 ++ [(i, a)]))).set F0.length (.int .i64 ((a : Int) + 1)) = ints (fsA (F0 ++ [(i, a + 1)])) := by
    have hF : F0.length = (ints (fsA F0)).length := by simp [ints, fsA]
    rw [fsA_snoc, fsA_snoc, ints_snoc, ints_snoc]
    rw [List.set_append_right _ _ (by omega), ← hF, Nat.sub_self]
    simp
  rw [e1] at ho2
  have hrr := h.rr
  rw [hl] at hrr
  obtain ⟨ρ', hr⟩ := hrr.rowA (v' := .slice (some ⟨ba, 0, none⟩) (F0.length + 1) ca) (xs' := fsA (F0 ++ [(i, a + 1)])) hg (by rw [fsA_len, hl2]; exact ho2) (.inl rfl)
  refine ⟨⟨ρ', Ap, cp, Ai, ci, some ⟨ba, 0, none⟩, ca, Aw, cw, Al, cl, ?_, ?_, h.lc⟩, ?_⟩
  · have := h.rc.off (u := .slice (some ⟨ba, 0, none⟩) (F0.length + 1) ca) hg (fun k hk => by have : ba = k := Option.some.inj hk; omega)
    rw [hl2]; rw [hl] at this; exact this
  · rw [hl2]
    have e2 : fsI (F0 ++ [(i, a + 1)]) = fsI (F0 ++ [(i, a)]) := by rw [fsI_snoc, fsI_snoc]
    rw [e2]; exact hr
  · exact (Below.refl g w).setCell (p := ⟨ba, F0.length, none⟩) (by simp only; omega) _
end
/-- The piece that a frame runs. -/
def PcOf (P : List ByteArray) (main : ByteArray) (i : Int) (T : ByteArray) : Prop := (i < 0 ∧ T = main) ∨ ∃ p : Nat, i = (p : Int) ∧ P[p]? = some T

set_option maxRecDepth 100000 in
set_option maxHeartbeats 1000000 in
theorem next_any (g : Nat) (P : List ByteArray) (main : ByteArray) (F0 : List (Int × Nat)) (i : Int) (a : Nat) (M : GM) (er : Int) (T : ByteArray) (w : World) (h : RM w g P main (F0 ++ [(i, a)]) M er)
    (hT : PcOf P main i T) (hts : T.size ≤ 1000000) (ha : a ≤ T.size) (hF : F0.length ≤ 10) :
    Calls Try.prog 15 #[.pointer (some ⟨g, 0, none⟩)] w fun e w' => Below g w w' ∧
      if a < T.size then e = .returned (.int .i64 (byt T a : Int)) ∧ RM w' g P main (F0 ++ [(i, a + 1)]) M er else e = .returned (.int .i64 0) ∧ RM w' g P main (F0 ++ [(i, a)]) M (if er = 0 then 4 else er) := by
  have HRM := Lib.hid h
  obtain ⟨ρ, Ap, cp, Ai, ci, Aa, ca, Aw, cw, Al, cl, h⟩ := h
  have hl : (F0 ++ [(i, a)]).length = F0.length + 1 := snoc_len _ _
  obtain ⟨k, hk⟩ : ∃ k, F0.length = k := ⟨_, rfl⟩
  have c0 := h.rc.c 0 _ rfl
  have c1 := h.rc.c 1 _ rfl
  have c2 := h.rc.c 2 _ rfl
  have c3 := h.rc.c 3 _ rfl
  have hoi := h.rr.hi
  have hoa := h.rr.ha
  rw [fsI_len] at hoi
  rw [fsA_len] at hoa
  rw [hl, hk] at c2 c3 hoi hoa
  obtain ⟨bi, rfl, hbi, hbis⟩ := own_some hoi (by omega)
  obtain ⟨ba, rfl, hba, hbas⟩ := own_some hoa (by omega)
  have di : w.cell? ⟨bi, k, none⟩ = some (.int .i64 i) := by
    rw [hoi.cellAt k (by omega), fsI_snoc, ints_snoc, ← hk]
    have : F0.length = (ints (fsI F0)).length := by simp [ints, fsI]
    rw [this]; simp
  have da : w.cell? ⟨ba, k, none⟩ = some (.int .i64 (a : Int)) := by
    rw [hoa.cellAt k (by omega), fsA_snoc, ints_snoc, ← hk]
    have : F0.length = (ints (fsA F0)).length := by simp [ints, fsA]
    rw [this]; simp
  have fa := hoa.frozenAt k
  have hbump := fun q => (h.below (bdrewN (Below.refl w.heap.size w) q)).bump
  simp only [hk] at hbump
  obtain ⟨e4, he4⟩ : ∃ x, (if er = 0 then 4 else er) = x := ⟨_, rfl⟩
  simp only [he4]
  have HE4 := Lib.hid he4
  clear he4
  have ib := fun (hlt : a < T.size) W => run_byt (t := 9) (s := T) (k := a) (i := (a : Int)) rfl Try.underlying9 hlt W
  have HB := Lib.hid hbump
  have da2 : ∀ q, ((w.drewN q).setCell ⟨ba, k, none⟩ (.int .i64 ((a : Int) + 1))).cell? ⟨ba, k, none⟩ = some (.int .i64 ((a : Int) + 1)) := fun q => World.cell?_setCell_same _ _ _ (show (w.drewN q).cell? _ = _ from da)
  have hD : ∀ q, Below g w (w.drewN q) := fun q => (bdrewN (Below.refl w.heap.size w) q).mono (Nat.le_of_lt h.rc.lt)
  have hB0 : Below g w (w.setCell ⟨ba, k, none⟩ (.int .i64 ((a : Int) + 1))) := (Below.refl g w).setCell (p := ⟨ba, k, none⟩) (by simp only; omega) _
  have hai : (a : Int) + 1 - 1 = (a : Int) := by omega
  have hbyt := byt_lt T a
  obtain ⟨z, hz⟩ : ∃ z, byt T a = z := ⟨_, rfl⟩
  rw [hz] at ib hbyt ⊢
  have hgba : g ≠ ba := by omega
  have hpieces := h.rr.hp
  clear hz hbump hoi hoa
  rcases hT with ⟨hi0, rfl⟩ | ⟨p, rfl, hpT⟩
  · have hd0 : decide (i ≥ 0) = false := by simp; omega
    by_cases hlt : a < T.size
    · have ib' := ib hlt
      have hd1 : decide ((a : Int) ≥ (T.size : Int)) = false := by simp; omega
      have hd2 : decide ((T.size : Int) ≤ (a : Int)) = false := by simp; omega
      have hd3 : decide (T.size ≤ a) = false := by simp; omega
      simp only [if_pos hlt]
      clear ib h
      go_enter Try.func15, Try.ntmps15
      go_wp2
      go_ret
      exact ⟨hB0, rfl, by have := (HB.out 0).1; exact this⟩
    · have hd1 : decide ((a : Int) ≥ (T.size : Int)) = true := by simp; omega
      have hd2 : decide ((T.size : Int) ≤ (a : Int)) = true := by simp; omega
      have hd3 : decide (T.size ≤ a) = true := by simp; omega
      simp only [if_neg hlt]
      clear ib h
      go_enter Try.func15, Try.ntmps15
      go_wp2_with fail
      refine (wrong_any 4 HRM.out).mono ?_; rintro e w1 ⟨rfl, hr, hb⟩
      rw [HE4.out] at hr
      have HR := Lib.hid hr
      go_wp2_with fail
      go_ret
      exact ⟨hb, rfl, HR.out⟩
  · have hd0 : decide ((p : Int) ≥ 0) = true := by simp
    have hpl : p < P.length := (List.getElem?_eq_some_iff.1 hpT).1
    obtain ⟨b, off, rfl, _, hc⟩ := hpieces.2 (by omega)
    have dp := hc p (.string T) (by simp [strs, hpT])
    clear hc hpieces hpT
    by_cases hlt : a < T.size
    · have ib' := ib hlt
      have hd1 : decide ((a : Int) ≥ (T.size : Int)) = false := by simp; omega
      have hd2 : decide ((T.size : Int) ≤ (a : Int)) = false := by simp; omega
      have hd3 : decide (T.size ≤ a) = false := by simp; omega
      simp only [if_pos hlt]
      clear ib h
      go_enter Try.func15, Try.ntmps15
      go_wp2
      go_quiet (fail)
      go_wp2
      go_ret
      exact ⟨(hD nq).trans (HB.out nq).2, rfl, (HB.out nq).1⟩
    · have hd1 : decide ((a : Int) ≥ (T.size : Int)) = true := by simp; omega
      have hd2 : decide ((T.size : Int) ≤ (a : Int)) = true := by simp; omega
      have hd3 : decide (T.size ≤ a) = true := by simp; omega
      simp only [if_neg hlt]
      clear ib h
      go_enter Try.func15, Try.ntmps15
      go_wp2_with fail
      go_quiet (fail)
      go_wp2_with fail
      refine (wrong_any 4 (HRM.out.below (bdrewN (Below.refl _ _) _))).mono ?_; rintro e w1 ⟨rfl, hr, hb⟩
      rw [HE4.out] at hr
      have HR := Lib.hid hr
      have hb' : Below g w w1 := (hD _).trans hb
      go_wp2_with fail
      go_ret
      exact ⟨hb', rfl, HR.out⟩
end Go.Proofs.Ytoehkfinchnadaa
