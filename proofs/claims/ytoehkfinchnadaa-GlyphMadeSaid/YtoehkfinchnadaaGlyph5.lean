/- Letters' programs: an operator that draws; a number. -/
import Derived.Test.YtoehkfinchnadaaGlyph4
namespace Go.Proofs.Ytoehkfinchnadaa
open Go.RowKit

theorem MAt.own_b {w : World} {g : Nat} {P : List ByteArray} {M : GM} {Ap Aw Al : Option Addr} {cp cw cl : Nat} (h : MAt w g P M Ap cp Aw cw Al cl) : ∀ b off, Aw = some ⟨b, off, none⟩ → b ≠ g := by
  intro b off e
  have := own_apart h.hw b off e
  omega
theorem GOK.nowait {M : GM} (h : GOK M) : GOK { M with wait := [] } := ⟨by simp, by simp, h.x, h.y, h.may, h.wide, h.ops⟩
theorem GOK.drawn {M : GM} (h : GOK M) : GOK { M with drawn := true } := ⟨h.w24, h.wv, h.x, h.y, h.may, h.wide, h.ops⟩

theorem calls_fn {c f : Nat} (hf : fnG c = some f) : ∀ (args : Array Value) (W : World), (callFunc f args).run Try.prog W = .ok (.enter f args) W := by
  intro args W
  unfold fnG at hf
  repeat' (split at hf)
  all_goals first | (cases hf; kernel_rfl) | cases hf

set_option maxHeartbeats 2000000 in
theorem draw_any (c : Nat) (g : Nat) (P : List ByteArray) (M : GM) (w : World) (hc : c < 32) (h : MS w g P M) :
    Calls Try.prog 23 #[.pointer (some ⟨g, 0, none⟩), .int .u8 (c : Int)] w (GPost g P w (drawG c M)) := by
  obtain ⟨hok, Ap, cp, Aw, cw, Al, cl, hM⟩ := h
  have HOK := Lib.hid hok
  have HM := Lib.hid hM
  have hwl := hok.w24
  clear hok hM
  go_enter Try.func23, Try.ntmps23
  go_wp2_with fail
  refine (table_any c _ hc).mono ?_; rintro e w1 ⟨hb1, hcase⟩
  rcases hcase with ⟨ht, rfl⟩ | ⟨t, f, ht, hf, rfl⟩
  · have HDR := Lib.hid (show drawG c M = .bad 3 by unfold drawG; rw [ht])
    have hb2 := bal hb1 (.cells #[.int .i64 0, .nilFunc] 70)
    have hM2 := HM.out.below hb2
    have HG2 := Lib.hid (ggbel (g := g) hb2)
    have c1 := hM2.c1
    have HM2 := Lib.hid hM2
    clear hb1 hb2 ht hM2
    go_wp2_with fail
    go_wp2_with fail
    go_ret
    exact ⟨3, rfl, HG2.out, by rw [HDR.out]; exact ⟨rfl, by omega, M, HOK.out, _, _, _, _, _, _, HM2.out⟩⟩
  · have hcf := calls_fn hf
    obtain ⟨w2, hw2⟩ : ∃ w2 : World, w2 = w1.alloc (.cells #[.int .i64 t, .func (.func f) #[] #[]] 70) := ⟨_, rfl⟩
    have hb2 : Below w.heap.size w w2 := by rw [hw2]; exact bal hb1 _
    have hM2 := HM.out.below hb2
    have hlt2 := HM.out.lt
    have HG2 := Lib.hid (ggbel (g := g) hb2)
    have c1 := hM2.c1
    have nf1 := hM2.nf 1
    have d0 : w2.cell? ⟨w1.heap.size, 0, none⟩ = some (.int .i64 t) := by rw [hw2]; exact new_cell _ 0
    have d1 : w2.cell? ⟨w1.heap.size, 1, none⟩ = some (.func (.func f) #[] #[]) := by rw [hw2]; exact new_cell _ 1
    have hgb : g ≠ w1.heap.size := by have := hb1.size; omega
    have HM2 := Lib.hid hM2
    have HT := Lib.hid ht
    clear hb1 hb2 ht hM2
    subst hw2
    by_cases hneg : t < 0
    · have hd1 : decide (t < 0) = true := by simp [hneg]
      by_cases h0 : M.wait.length = 0
      · have HDR := Lib.hid (show drawG c M = .bad 7 by unfold drawG; rw [HT.out]; simp only; rw [if_pos (.inl ⟨hneg, .inl h0⟩)])
        have hz1 : ((M.wait.length : Int) == 0) = true := by simp [h0]
        have hz2 : (M.wait.length == 0) = true := by simp [h0]
        go_wp2_with fail
        go_ret
        exact ⟨7, rfl, HG2.out, by rw [HDR.out]; exact ⟨rfl, by omega, M, HOK.out, _, _, _, _, _, _, HM2.out⟩⟩
      · have hz1 : ((M.wait.length : Int) == 0) = false := by simp only [beq_eq_false_iff_ne, ne_eq]; omega
        have hz2 : (M.wait.length == 0) = false := by simp only [beq_eq_false_iff_ne, ne_eq]; omega
        by_cases h2 : M.wait.length % 2 = 1
        · have HDR := Lib.hid (show drawG c M = .bad 7 by unfold drawG; rw [HT.out]; simp only; rw [if_pos (.inl ⟨hneg, .inr h2⟩)])
          have hz3 : (((M.wait.length : Int).tmod 2) == 1) = true := by rw [Int.tmod_eq_emod_of_nonneg (by omega)]; simp; omega
          go_wp2_with fail
          go_ret
          exact ⟨7, rfl, HG2.out, by rw [HDR.out]; exact ⟨rfl, by omega, M, HOK.out, _, _, _, _, _, _, HM2.out⟩⟩
        · have hz3 : (((M.wait.length : Int).tmod 2) == 1) = false := by rw [Int.tmod_eq_emod_of_nonneg (by omega)]; simp; omega
          have hz4 : decide ((M.wait.length : Int) < t) = false := by simp; omega
          have hz5 : decide (t ≥ 0) = false := by simp; omega
          have hz6 : decide (0 ≤ t) = false := by simp; omega
          have HCO := Lib.hid (show CountOK t M.wait.length from .inl ⟨hneg, h0, by omega⟩)
          have HDR := Lib.hid (show drawG c M = drawnG (opG c { M with wait := [] } M.wait) by unfold drawG; rw [HT.out]; simp only; rw [if_neg (by omega), if_neg (by omega)])
          have HM3 := Lib.hid (HM2.out.setWait (v := []) (A := none) (c := 0) (n := 0) own_nil rfl (by intro _ _ _ _ k hk; simp [Value.ownBlock] at hk))
          have HG3 := Lib.hid (ggtr HG2.out (set_own (w := w1.alloc (.cells #[.int .i64 t, .func (.func f) #[] #[]] 70)) (g := g) (u := .slice none 0 0) (i := 1)))
          have HSV := Lib.hid (sl_g (set_own (w := w1.alloc (.cells #[.int .i64 t, .func (.func f) #[] #[]] 70)) (g := g) (u := .slice none 0 0) (i := 1)) (own_sl HM2.out.hw) (fun _ => HM2.out.own_b))
          have HNE := Lib.hid HM2.out.own_b
          go_wp2_with fail
          refine (op_any g P { M with wait := [] } M.wait Aw M.wait.length cw _ hf HT.out HCO.out ⟨HOK.out.nowait, _, _, _, _, _, _, HM3.out⟩ HSV.out HNE.out (by omega) (VB.of HOK.out.wv)).mono ?_; rintro e w4 ⟨z, rfl, hg4, hr4⟩
          cases hr : opG c { M with wait := [] } M.wait with
          | bad er =>
            rw [hr] at hr4
            obtain ⟨rfl, hz, M4, hok4, _, _, _, _, _, _, hM4⟩ := hr4
            have c7 := hM4.c7
            have n7 := hM4.nf 7
            have HM5 := Lib.hid (hM4.setDrawn true)
            have HOK5 := Lib.hid hok4.drawn
            have HD := Lib.hid (show drawG c M = .bad z by rw [HDR.out, hr]; rfl)
            have hG := ggtr HG3.out hg4
            clear hr hok4 hM4 hg4
            go_wp2_with fail
            go_ret
            exact ⟨z, rfl, ggtr hG set_own, by rw [HD.out]; exact ⟨rfl, hz, _, HOK5.out, _, _, _, _, _, _, HM5.out⟩⟩
          | ok M4 =>
            rw [hr] at hr4
            obtain ⟨rfl, hok4, _, _, _, _, _, _, hM4⟩ := hr4
            have c7 := hM4.c7
            have n7 := hM4.nf 7
            have HM5 := Lib.hid (hM4.setDrawn true)
            have HOK5 := Lib.hid hok4.drawn
            have HD := Lib.hid (show drawG c M = .ok { M4 with drawn := true } by rw [HDR.out, hr]; rfl)
            have hG := ggtr HG3.out hg4
            clear hr hok4 hM4 hg4
            go_wp2_with fail
            go_ret
            exact ⟨0, rfl, ggtr hG set_own, by rw [HD.out]; exact ⟨rfl, HOK5.out, _, _, _, _, _, _, HM5.out⟩⟩
    · have hd1 : decide (t < 0) = false := by simp; omega
      have hz5 : decide (t ≥ 0) = true := by simp; omega
      have hz6 : decide (0 ≤ t) = true := by simp; omega
      by_cases h1 : (M.wait.length : Int) < t
      · have HDR := Lib.hid (show drawG c M = .bad 7 by unfold drawG; rw [HT.out]; simp only; rw [if_pos (.inr h1)])
        have hz4 : decide ((M.wait.length : Int) < t) = true := by simp [h1]
        go_wp2_with fail
        go_ret
        exact ⟨7, rfl, HG2.out, by rw [HDR.out]; exact ⟨rfl, by omega, M, HOK.out, _, _, _, _, _, _, HM2.out⟩⟩
      · have hz4 : decide ((M.wait.length : Int) < t) = false := by simp; omega
        by_cases h2 : t < (M.wait.length : Int)
        · have HDR := Lib.hid (show drawG c M = .bad 8 by unfold drawG; rw [HT.out]; simp only; rw [if_neg (by omega), if_pos (by omega)])
          have hz7 : decide ((M.wait.length : Int) > t) = true := by simp [h2]
          have hz8 : decide (t < (M.wait.length : Int)) = true := by simp [h2]
          go_wp2_with fail
          go_ret
          exact ⟨8, rfl, HG2.out, by rw [HDR.out]; exact ⟨rfl, by omega, M, HOK.out, _, _, _, _, _, _, HM2.out⟩⟩
        · have hz7 : decide ((M.wait.length : Int) > t) = false := by simp; omega
          have hz8 : decide (t < (M.wait.length : Int)) = false := by simp; omega
          have HCO := Lib.hid (show CountOK t M.wait.length from .inr ⟨by omega, by omega⟩)
          have HDR := Lib.hid (show drawG c M = drawnG (opG c { M with wait := [] } M.wait) by unfold drawG; rw [HT.out]; simp only; rw [if_neg (by omega), if_neg (by omega)])
          have HM3 := Lib.hid (HM2.out.setWait (v := []) (A := none) (c := 0) (n := 0) own_nil rfl (by intro _ _ _ _ k hk; simp [Value.ownBlock] at hk))
          have HG3 := Lib.hid (ggtr HG2.out (set_own (w := w1.alloc (.cells #[.int .i64 t, .func (.func f) #[] #[]] 70)) (g := g) (u := .slice none 0 0) (i := 1)))
          have HSV := Lib.hid (sl_g (set_own (w := w1.alloc (.cells #[.int .i64 t, .func (.func f) #[] #[]] 70)) (g := g) (u := .slice none 0 0) (i := 1)) (own_sl HM2.out.hw) (fun _ => HM2.out.own_b))
          have HNE := Lib.hid HM2.out.own_b
          go_wp2_with fail
          refine (op_any g P { M with wait := [] } M.wait Aw M.wait.length cw _ hf HT.out HCO.out ⟨HOK.out.nowait, _, _, _, _, _, _, HM3.out⟩ HSV.out HNE.out (by omega) (VB.of HOK.out.wv)).mono ?_; rintro e w4 ⟨z, rfl, hg4, hr4⟩
          cases hr : opG c { M with wait := [] } M.wait with
          | bad er =>
            rw [hr] at hr4
            obtain ⟨rfl, hz, M4, hok4, _, _, _, _, _, _, hM4⟩ := hr4
            have c7 := hM4.c7
            have n7 := hM4.nf 7
            have HM5 := Lib.hid (hM4.setDrawn true)
            have HOK5 := Lib.hid hok4.drawn
            have HD := Lib.hid (show drawG c M = .bad z by rw [HDR.out, hr]; rfl)
            have hG := ggtr HG3.out hg4
            clear hr hok4 hM4 hg4
            go_wp2_with fail
            go_ret
            exact ⟨z, rfl, ggtr hG set_own, by rw [HD.out]; exact ⟨rfl, hz, _, HOK5.out, _, _, _, _, _, _, HM5.out⟩⟩
          | ok M4 =>
            rw [hr] at hr4
            obtain ⟨rfl, hok4, _, _, _, _, _, _, hM4⟩ := hr4
            have c7 := hM4.c7
            have n7 := hM4.nf 7
            have HM5 := Lib.hid (hM4.setDrawn true)
            have HOK5 := Lib.hid hok4.drawn
            have HD := Lib.hid (show drawG c M = .ok { M4 with drawn := true } by rw [HDR.out, hr]; rfl)
            have hG := ggtr HG3.out hg4
            clear hr hok4 hM4 hg4
            go_wp2_with fail
            go_ret
            exact ⟨0, rfl, ggtr hG set_own, by rw [HD.out]; exact ⟨rfl, HOK5.out, _, _, _, _, _, _, HM5.out⟩⟩
end Go.Proofs.Ytoehkfinchnadaa
