/- The walk of StrokeMasks: it returns true. -/
import Derived.Test.YtpidgiooggffdaaStrokeMaskR
import Derived.Test.YtpidgiooggffdaaStrokeMaskR1
namespace Go.Proofs.Ytpidgiooggffdaa
open Go.RowKit Go.BigFrame

theorem ByRow.slb {w : World} {g n : Nat} {xs : List Nat} (h : ByRow w g n xs) : Sl w 1 (some ⟨g, 0, none⟩) n (bys xs) := h.sl
/-- Both answers, alike. -/
theorem Mask_any (A : Option Addr) (n c : Nat) (l : List Sg) (wd cp jn a b : Int) (hn : n ≤ 1000000) :
    ∃ (W H er : Int) (N : Nat) (xs : List Nat),
      (∀ w, Sl w 5 A n (sgs l) → Calls Try.prog 6 #[.slice A n c, .agg #[.int .i64 wd, .int .i64 cp, .int .i64 jn], .int .i64 a, .int .i64 b] w
        fun e w' => ∃ (A' : Option Addr), e = .returned (.tuple #[.agg #[.int .i64 W, .int .i64 H, .slice A' N N], .int .i64 er]) ∧ Sl w' 1 A' N (bys xs) ∧ (N = 0 → A' = none) ∧ Below w.heap.size w w') ∧
      (∀ w, Sl w 5 A n (sgs l) → Calls Try.prog 7 #[.slice A n c, .agg #[.int .i64 wd, .int .i64 cp, .int .i64 jn], .int .i64 a, .int .i64 b] w
        fun e w' => ∃ (A' : Option Addr), e = .returned (.tuple #[.agg #[.int .i64 W, .int .i64 H, .slice A' N N], .int .i64 er]) ∧ Sl w' 1 A' N (bys xs) ∧ (N = 0 → A' = none) ∧ Below w.heap.size w w') := by
  by_cases hbad : plainB l = false ∨ mayS ⟨wd, cp, jn⟩ = false ∨ a < 1 ∨ 64 < a ∨ b < 1 ∨ 64 < b
  · refine ⟨0, 0, 1, 0, [], fun w h => (Mask_bad A n c l wd cp jn a b w hn h hbad).mono ?_, fun w h => (ref_Mask_bad A n c l wd cp jn a b w hn h hbad).mono ?_⟩
    · rintro e w' ⟨rfl, hb⟩; exact ⟨none, rfl, ⟨rfl, fun h => absurd h (by omega)⟩, fun _ => rfl, hb⟩
    · rintro e w' ⟨rfl, hb⟩; exact ⟨none, rfl, ⟨rfl, fun h => absurd h (by omega)⟩, fun _ => rfl, hb⟩
  · have hp : plainB l = true := by simp at hbad; exact hbad.1
    have hm : mayS ⟨wd, cp, jn⟩ = true := by simp at hbad; exact hbad.2.1
    obtain ⟨x, rfl⟩ : ∃ x : Nat, a = (x : Int) := ⟨a.toNat, by omega⟩
    obtain ⟨y, rfl⟩ : ∃ y : Nat, b = (y : Int) := ⟨b.toNat, by omega⟩
    have hx : 1 ≤ x ∧ x ≤ 64 := by omega
    have hy : 1 ≤ y ∧ y ≤ 64 := by omega
    have h1 : 1 ≤ x * y := Nat.mul_pos (by omega) (by omega)
    refine ⟨x, y, 0, x * y, maskL (covL l ⟨wd, cp, jn⟩) x y, fun w h => (Mask_ok A n c l wd cp jn x y w h hx hy hp hm).mono ?_, fun w h => (ref_Mask_ok A n c l wd cp jn x y w h hx hy hp hm).mono ?_⟩
    · rintro e w' ⟨g, rfl, hr, hb⟩; exact ⟨_, rfl, hr.sl, fun h => absurd h (by omega), hb⟩
    · rintro e w' ⟨g, rfl, hr, hb⟩; exact ⟨_, rfl, hr.sl, fun h => absurd h (by omega), hb⟩
set_option maxRecDepth 100000 in
set_option maxHeartbeats 1000000 in
theorem StrokeMasks_any (A : Option Addr) (n c : Nat) (l : List Sg) (wd cp jn a b : Int) (w : World) (h : Sl w 5 A n (sgs l)) (hc : n ≤ 9223372036854775807) :
    Calls Try.prog 3 #[.slice A n c, .agg #[.int .i64 wd, .int .i64 cp, .int .i64 jn], .int .i64 a, .int .i64 b] w fun e w' => e = .returned (.bool true) ∧ Below w.heap.size w w' := by
  obtain ⟨w0, hw0⟩ : ∃ w0 : World, w0 = w.alloc (.cells #[.int .i64 wd, .int .i64 cp, .int .i64 jn] 24) := ⟨_, rfl⟩
  have hst : StIn w0 w.heap.size wd cp jn := by rw [hw0]; exact StIn.new _ _ _
  have B0 : Below w.heap.size w w0 := by rw [hw0]; exact bal (Below.refl _ _) _
  have h0 := h.below B0
  clear h
  by_cases hskip : 30 < n ∨ (9 < a ∧ a ≤ 64) ∨ (9 < b ∧ b ≤ 64)
  · go_enter Try.func3, Try.ntmps3
    go_wp2_with fail
    rw [← hw0]
    clear hw0
    refine (known33_any _).mono ?_; rintro e w1 ⟨rfl, hb1⟩
    go_wp2_with fail
    all_goals first
      | (go_ret; exact ⟨rfl, btr B0 hb1⟩)
      | (exfalso; omega)
  · have hn30 : n ≤ 30 := by omega
    have hca : a ≤ 9 ∨ 64 < a := by omega
    have hcb : b ≤ 9 ∨ 64 < b := by omega
    obtain ⟨W, H, er, N, xs, HM1, HM2⟩ := Mask_any A n c l wd cp jn a b (by omega)
    have H1 := Lib.hid HM1
    have H2 := Lib.hid HM2
    have hee : (er == er) = true := by simp
    clear HM1 HM2 hskip
    have fin : ∀ w1 : World, Below w0.heap.size w0 w1 → True := fun _ _ => trivial
    go_enter Try.func3, Try.ntmps3
    go_wp2_with fail
    rw [← hw0]
    clear hw0
    refine (known33_any _).mono ?_; rintro e w1 ⟨rfl, hb1⟩
    have B1 := btr B0 hb1
    have hst1 := hst.below hb1
    have h1 := h0.below hb1
    obtain ⟨s0, s1, s2⟩ : w1.cell? ⟨w.heap.size, 0, none⟩ = some (.int .i64 wd) ∧ w1.cell? ⟨w.heap.size, 1, none⟩ = some (.int .i64 cp) ∧ w1.cell? ⟨w.heap.size, 2, none⟩ = some (.int .i64 jn) := ⟨hst1.c0, hst1.c1, hst1.c2⟩
    clear hb1 B0 h0 hst fin
    go_upto_region 5 with (fail)
    all_goals first
      | (exfalso; omega)
      | skip
    all_goals
      go_wp2_with fail
      refine (H1.out _ h1).mono ?_; rintro e w2 ⟨A2, rfl, hs2, hz2, hb2⟩
      have B2 := btr B1 hb2
      have hst2 := hst1.below hb2
      have h2 := h1.below hb2
      have m2 : Hid ((w2.alloc (.cells #[.int .i64 W, .int .i64 H, .slice A2 N N] 28)).heap[w2.heap.size]? = some (.cells #[.int .i64 W, .int .i64 H, .slice A2 N N] 28 (0, 0))) := heap_alloc_new w2 _
      have hal := bal (Below.refl w2.heap.size w2) (.cells #[.int .i64 W, .int .i64 H, .slice A2 N N] 28)
      have hst3 := hst2.below hal
      clear s0 s1 s2
      obtain ⟨s0, s1, s2⟩ : w2.cell? ⟨w.heap.size, 0, none⟩ = some (.int .i64 wd) ∧ w2.cell? ⟨w.heap.size, 1, none⟩ = some (.int .i64 cp) ∧ w2.cell? ⟨w.heap.size, 2, none⟩ = some (.int .i64 jn) := ⟨hst2.c0, hst2.c1, hst2.c2⟩
      have hlt2 := hst2.lt
      go_wp2_with fail
      refine (H2.out _ (h2.below hal)).mono ?_; rintro e w3 ⟨A3, rfl, hs3, hz3, hb3⟩
      have m3 : Hid (w3.heap[w2.heap.size]? = some (.cells #[.int .i64 W, .int .i64 H, .slice A2 N N] 28 (0, 0))) := (hb3.block _ (hid_lt m2)).trans m2.out
      have c0 := fun i => blk_cell i m3
      have hlt3 := hid_lt m3
      have B3 := btr (btr B2 hal) hb3
      have hs2' := (hs2.below hal).below hb3
      clear s0 s1 s2 hlt2 m2 hal hst2 hst3 hb3 B2
      go_wp2_with fail
      refine (helpMask_any A2 A3 N N N W H xs _ (hs2'.below (bal (Below.refl _ _) _)) hz2 (hs3.below (bal (Below.refl _ _) _)) hz3).mono ?_; rintro e w4 ⟨rfl, hb4⟩
      go_wp2_with fail
      go_ret
      exact ⟨rfl, btr (bal B3 _) hb4⟩
end Go.Proofs.Ytpidgiooggffdaa
