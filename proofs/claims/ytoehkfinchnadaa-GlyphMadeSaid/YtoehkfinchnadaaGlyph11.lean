/- Letters' programs: glyph.Run. -/
import Derived.Test.YtoehkfinchnadaaGlyph10
namespace Go.Proofs.Ytoehkfinchnadaa
open Go.RowKit Go.BigFrame

theorem fz_newG {w : World} {t : TypeId} {g : Nat} (cs : Array Value) (hg : w.heap.size = g) (i : Nat) : (w.alloc (.cells cs t)).frozen? ⟨g, i, none⟩ = false := by
  subst hg
  exact frozen_of_row _ _ _ _ _ (heap_alloc_new w _)
theorem MAt.start {w : World} {t : TypeId} {A : Option Addr} {n c : Nat} {Ps : List ByteArray} (h : Sl w 1 A n (strs Ps)) (hn : Ps.length = n) :
    MAt (w.alloc (.cells #[.slice A n c, .slice none 0 0, .slice none 0 0, .int .i64 0, .int .i64 0, .int .i64 0, .int .i64 0, .bool false, .bool false] t)) w.heap.size Ps startG A c none 0 none 0 := by
  subst hn
  refine ⟨by simp, fz_newG _ rfl, new_cell _ 0, new_cell _ 1, new_cell _ 2, new_cell _ 3, new_cell _ 4, new_cell _ 5, new_cell _ 6, new_cell _ 7, new_cell _ 8, ?_, own_nil, Sl.nil_, Nat.le_refl _, fun h0 => absurd h0 (by simp [startG])⟩
  intro h0
  obtain ⟨b, off, e, hb, hc⟩ := h.2 h0
  exact ⟨b, off, e, hb, fun j u hu => (later_cell (bal (Below.refl _ _) _) hb).trans (hc j u hu)⟩
theorem start_ok : GOK startG := ⟨by simp [startG], by simp [startG], by simp [startG], by simp [startG], rfl, by simp [startG], by simp [startG]⟩

set_option maxRecDepth 100000 in
set_option maxHeartbeats 2000000 in
theorem Run_any (p : ByteArray) (w : World) (hp : p.size ≤ 1000000) :
    Calls Try.prog 6 #[.string p] w fun e w' => ∃ (L : List Sg) (wd er : Int) (A : Option Addr) (n c : Nat), e = .returned (.tuple #[.slice A n c, .int .i64 wd, .int .i64 er]) ∧ RunG (bl p) = ((L, wd), er) ∧ L.length = n ∧ n ≤ 300 ∧ n ≤ c ∧
      Sl w' 5 A n (sgs L) ∧ (mayB L = true ∧ 0 ≤ wd ∧ wd ≤ 8191) ∧ Below w.heap.size w w' := by
  go_enter Try.func6, Try.ntmps6
  go_wp2_with fail
  refine (split_any p _ hp).mono ?_; rintro e w1 ⟨Ps, left, A, c, er, rfl, hown, hS, hP16, ⟨hPs, hls⟩, hb1⟩
  by_cases he : er = 0
  · subst he
    obtain ⟨n, hn⟩ : ∃ n, Ps.length = n := ⟨_, rfl⟩
    have hR : RunG (bl p) = endG (runD (Ps.map bl) 4 true (bl left) startG) := by unfold RunG; rw [hS]; rfl
    rw [hn] at hown ⊢
    have hM := MAt.start (t := 47) (c := c) (own_sl hown) hn
    have HMS := Lib.hid (show MS _ _ _ _ from ⟨start_ok, _, _, _, _, _, _, hM⟩)
    have HRUN := Lib.hid (fun W M h => run_any w1.heap.size Ps hP16 hPs 4 0 rfl left M W hls h)
    have HR := Lib.hid hR
    clear hS hR hM hown
    go_wp2_with fail
    refine (HRUN.out _ _ HMS.out).mono ?_; rintro e w2 ⟨z, rfl, hb2, hr2⟩
    have B2 : Below w.heap.size w w2 := (bal hb1 (.cells #[.slice A n c, .slice none 0 0, .slice none 0 0, .int .i64 0, .int .i64 0, .int .i64 0, .int .i64 0, .bool false, .bool false] 47)).trans (hb2.mono hb1.size)
    cases hr : runD (Ps.map bl) 4 true (bl left) startG with
    | bad er =>
      have h0 : ((0 : Nat) == 0) = true := rfl
      rw [h0, hr] at hr2
      obtain ⟨rfl, hz⟩ := hr2
      have hzz : (z != 0) = true := by simp [hz]
      have HRR := Lib.hid (show RunG (bl p) = (([], 0), z) by rw [HR.out, hr]; rfl)
      clear hr hb2
      go_wp2_with fail
      go_ret3
      exact ⟨[], 0, z, none, 0, 0, rfl, HRR.out, rfl, by omega, Nat.le_refl _, Sl.nil_, ⟨rfl, by omega, by omega⟩, B2⟩
    | ok M2 =>
      have h0 : ((0 : Nat) == 0) = true := rfl
      rw [h0, hr] at hr2
      obtain ⟨rfl, hok, Ap, cp, Aw, cw, Al, cl, hM2⟩ := hr2
      have HRR := Lib.hid (show RunG (bl p) = ((M2.l, M2.wide), 0) by rw [HR.out, hr]; rfl)
      have c2 := hM2.c2
      have c5 := hM2.c5
      have hl3 := (mayB_from hok.may).2
      have HM2 := Lib.hid hM2
      have HOK := Lib.hid hok
      clear hr hb2 hM2 hok
      go_wp2_with fail
      go_quiet (fail)
      go_wp2_with fail
      go_ret3
      exact ⟨M2.l, M2.wide, 0, Al, _, cl, rfl, HRR.out, rfl, hl3, HM2.out.lc, HM2.out.hl.below (bdrewN (Below.refl _ _) _), ⟨HOK.out.may, HOK.out.wide.1, HOK.out.wide.2⟩, bdrewN B2 _⟩
  · have hR : RunG (bl p) = (([], 0), er) := by unfold RunG; rw [hS]; simp only; rw [if_neg he]
    have HR := Lib.hid hR
    have hee : (er != 0) = true := by simp [he]
    clear hS hR hown
    go_wp2_with fail
    go_ret3
    exact ⟨[], 0, er, none, 0, 0, rfl, HR.out, rfl, by omega, Nat.le_refl _, Sl.nil_, ⟨rfl, by omega, by omega⟩, hb1⟩
end Go.Proofs.Ytoehkfinchnadaa
