/- Letters' programs: lines, the table, a number, an operator that draws. -/
import Derived.Test.YtoehkfinchnadaaGlyph2
namespace Go.Proofs.Ytoehkfinchnadaa
open Go.RowKit


theorem MS.below {w w' : World} {g : Nat} {P : List ByteArray} {M : GM} (h : MS w g P M) (hb : Below w.heap.size w w') : MS w' g P M := by
  obtain ⟨hok, _, _, _, _, _, _, hM⟩ := h
  exact ⟨hok, _, _, _, _, _, _, hM.below hb⟩
theorem linesG_step {M : GM} {v : List Int} {i : Nat} (h : i + 1 < v.length) :
    linesG M (v.drop i) = match lineG M (v[i]?.getD 0) (v[i + 1]?.getD 0) with
      | .bad e => .bad e
      | .ok M' => linesG M' (v.drop (i + 2)) := by
  have e : v.drop i = v[i] :: v[i + 1] :: v.drop (i + 2) := by
    rw [List.drop_eq_getElem_cons (by omega : i < v.length), List.drop_eq_getElem_cons h]
  rw [e]
  simp only [linesG, List.getElem?_eq_getElem (show i < v.length by omega), List.getElem?_eq_getElem h, Option.getD_some]
  cases lineG M v[i] v[i + 1] <;> rfl

set_option maxHeartbeats 1000000 in
theorem lines_any (g : Nat) (P : List ByteArray) (M : GM) (v : List Int) (Av : Option Addr) (nv cv : Nat) (w : World) (h : MS w g P M) (hv : Sl w 1 Av nv (ints v)) (hne : ∀ b off, Av = some ⟨b, off, none⟩ → b ≠ g) (hn : nv % 2 = 0) (hn2 : nv ≤ 100) (hb : VB v) :
    Calls Try.prog 41 #[.pointer (some ⟨g, 0, none⟩), .slice Av nv cv] w (GPost g P w (linesG M v)) := by
  have hl : v.length = nv := by have := hv.1; simp [ints] at this; omega
  have HB := Lib.hid hb
  have HV := Lib.hid hv
  have HNE := Lib.hid hne
  have HL := Lib.hid hl
  clear hb hne hv hl
  go_enter Try.func41, Try.ntmps41
  go_wp2
  go_loopw [5] (fun s5 wr => ∃ (i : Nat) (M' : GM), i ≤ nv ∧ i % 2 = 0 ∧ s5 = .int .i64 (i : Int) ∧ MS wr g P M' ∧ w.grownBy wr (some g) ∧ Hid (linesG M v = linesG M' (v.drop i))) (fun s5 _ => nv - (intOf s5).toNat)
  case atStart => exact ⟨0, M, by omega, by omega, rfl, h, ggbel (Below.refl _ _), Lib.hid (by rw [List.drop_zero])⟩
  case round =>
    obtain ⟨i, M', hi, hi2, rfl, hM, hg, he⟩ := hrel
    by_cases hlt : i < nv
    · have hi3 : i + 1 < nv := by omega
      have hs := sl_g hg HV.out (fun _ => HNE.out)
      obtain ⟨bv, ov, hA, hbv, v0⟩ := hs.at (k := i) hlt
      obtain ⟨bv', ov', hA', _, v1⟩ := hs.at (k := i + 1) hi3
      rw [hA] at hA'
      obtain ⟨rfl, rfl⟩ := Sl.inj hA'
      have hst := linesG_step (M := M') (v := v) (i := i) (by rw [HL.out]; omega)
      have h1 := HB.out i
      have h2 := HB.out (i + 1)
      obtain ⟨dx, hdx⟩ : ∃ dx, dx = v[i]?.getD 0 := ⟨_, rfl⟩
      obtain ⟨dy, hdy⟩ : ∃ dy, dy = v[i + 1]?.getD 0 := ⟨_, rfl⟩
      rw [← hdx] at v0 h1 hst
      rw [← hdy] at v1 h2 hst
      have HST := Lib.hid hst
      have HM := Lib.hid hM
      clear hdx hdy hA' hs hst hM h
      subst hA
      have b1 : ((i : Int)) < (nv : Int) := by omega
      have b2 : ((i : Int)) + 1 < (nv : Int) := by omega
      go_wp2
      refine wp_region_cut 9 (by kernel_rfl) rfl (by simp only [List.take_succ_cons, List.take_zero]; rfl) (by simp only [List.drop_succ_cons, List.drop_zero]; rfl) (by kernel_rfl) (by kernel_rfl) (by kernel_rfl) (by kernel_rfl) (by kernel_rfl) (by kernel_rfl) (fun _ _ h => by obtain ⟨_, hz, _⟩ := h; cases hz) (fun _ => rfl) ?_
      try simp only [Act.put, List.setIfInBounds_toArray, List.set_cons_zero, List.set_cons_succ]
      repeat (go_big_quiet_step (fail))
      refine wpQuiet_nil ?_
      intro _ hw'
      obtain ⟨nq, rfl⟩ := hw'
      go_wp2_with fail
      refine (line_any g P M' dx dy _ (HM.out.below (bdrewN (Below.refl _ _) _)) h1 h2).mono ?_; rintro e w2 ⟨z, rfl, hg2, hr2⟩
      have hG := ggtr hg (ggtr (ggbel (bdrewN (Below.refl _ _) nq)) hg2)
      go_wp2_with fail
      refine NoPanic.normal ?_
      cases hr : lineG M' dx dy with
      | bad er =>
        rw [hr] at hr2
        obtain ⟨rfl, hz, hex⟩ := hr2
        have hz1 : (z != 0) = true := by simp [hz]
        have HT := Lib.hid (show linesG M v = .bad z by rw [he.out, HST.out, hr])
        clear hr HST he
        go_wp2_with fail
        go_ret
        exact ⟨z, rfl, hG, by rw [HT.out]; exact ⟨rfl, hz, hex⟩⟩
      | ok M2 =>
        rw [hr] at hr2
        obtain ⟨rfl, hM2⟩ := hr2
        have HT := Lib.hid (show linesG M v = linesG M2 (v.drop (i + 2)) by rw [he.out, HST.out, hr])
        clear hr HST he
        go_wp2_with fail
        go_roundw
        case rel => exact ⟨i + 2, M2, by omega, by omega, by go_num, hM2, hG, HT⟩
        case measure => simp [intOf]; omega
    · obtain rfl : i = nv := by omega
      have HT := Lib.hid (show linesG M v = .ok M' by rw [he.out, List.drop_of_length_le (by rw [HL.out]; omega)]; rfl)
      clear he h
      go_wp2_with fail
      go_ret
      exact ⟨0, rfl, hg, by rw [HT.out]; exact ⟨rfl, hM⟩⟩
theorem across_any (g : Nat) (P : List ByteArray) (M : GM) (v : List Int) (Av : Option Addr) (nv cv : Nat) (w : World) (h : MS w g P M) (hv : Sl w 1 Av nv (ints v)) (hn : nv = 1) (hb : VB v) :
    Calls Try.prog 43 #[.pointer (some ⟨g, 0, none⟩), .slice Av nv cv] w (GPost g P w (lineG M (v[0]?.getD 0) 0)) := by
  subst hn
  obtain ⟨bv, ov, rfl, hbv, v0⟩ := hv.at (k := 0) (by omega)
  have h1 := hb 0
  obtain ⟨a, ha⟩ : ∃ dx, dx = v[0]?.getD 0 := ⟨_, rfl⟩
  rw [← ha] at v0 h1 ⊢
  rw [Nat.add_zero] at v0
  clear ha hv hb
  have HM := Lib.hid h
  clear h
  go_enter Try.func43, Try.ntmps43
  go_wp2_with fail
  refine (line_any g P M a 0 _ HM.out h1 (by omega)).mono ?_; rintro e w2 ⟨z, rfl, hg2, hr2⟩
  go_wp2_with fail
  go_ret
  exact ⟨z, rfl, hg2, hr2⟩
theorem up_any (g : Nat) (P : List ByteArray) (M : GM) (v : List Int) (Av : Option Addr) (nv cv : Nat) (w : World) (h : MS w g P M) (hv : Sl w 1 Av nv (ints v)) (hn : nv = 1) (hb : VB v) :
    Calls Try.prog 45 #[.pointer (some ⟨g, 0, none⟩), .slice Av nv cv] w (GPost g P w (lineG M 0 (v[0]?.getD 0))) := by
  subst hn
  obtain ⟨bv, ov, rfl, hbv, v0⟩ := hv.at (k := 0) (by omega)
  have h1 := hb 0
  obtain ⟨a, ha⟩ : ∃ dx, dx = v[0]?.getD 0 := ⟨_, rfl⟩
  rw [← ha] at v0 h1 ⊢
  rw [Nat.add_zero] at v0
  clear ha hv hb
  have HM := Lib.hid h
  clear h
  go_enter Try.func45, Try.ntmps45
  go_wp2_with fail
  refine (line_any g P M 0 a _ HM.out (by omega) h1).mono ?_; rintro e w2 ⟨z, rfl, hg2, hr2⟩
  go_wp2_with fail
  go_ret
  exact ⟨z, rfl, hg2, hr2⟩
end Go.Proofs.Ytoehkfinchnadaa
