/- Letters' programs: a piece is run. -/
import Derived.Test.YtoehkfinchnadaaGlyph7
namespace Go.Proofs.Ytoehkfinchnadaa
open Go.RowKit Go.BigFrame

theorem ints_snoc (v : List Int) (z : Int) : ints (v ++ [z]) = ints v ++ [.int .i64 z] := by simp [ints]
theorem MAt.push {w w' : World} {g : Nat} {P : List ByteArray} {M : GM} {Ap Aw Al A : Option Addr} {cp cw cl c n : Nat} {v : Int} (h : MAt w g P M Ap cp Aw cw Al cl) (hn : M.wait.length = n) (hg : w.grownBy w' (Value.slice Aw n cw).ownBlock)
    (ho : w'.ownsRow (g + 1) 3 1 (.slice A (n + 1) c) (n + 1) (ints M.wait ++ [.int .i64 v])) (hat : (Value.slice A (n + 1) c).ownBlock = (Value.slice Aw n cw).ownBlock ∨ (Value.slice A (n + 1) c).ownBlock = some w.heap.size) :
    MAt (w'.setCell ⟨g, 1, none⟩ (.slice A (n + 1) c)) g P { M with wait := M.wait ++ [v] } Ap cp A c Al cl := by
  subst hn
  have hlt := h.lt
  have hgw : (Value.slice Aw M.wait.length cw).ownBlock ≠ some g := fun e => by have := (h.hw.lt g e).1; omega
  have hblk : ∀ b, b < w.heap.size → (∀ k, (Value.slice Aw M.wait.length cw).ownBlock = some k → b ≠ k) → w'.heap[b]? = w.heap[b]? := fun b hb hne => hg.block b hb fun e => hne b e.symm rfl
  have hbg := hblk g hlt (fun k hk e => hgw (e ▸ hk))
  have cg : ∀ i, w'.cell? ⟨g, i, none⟩ = w.cell? ⟨g, i, none⟩ := fun i => World.cell?_of_block (a := ⟨g, i, none⟩) hbg
  have fg : ∀ i, w'.frozen? ⟨g, i, none⟩ = false := fun i => (World.frozen?_of_block (a := ⟨g, i, none⟩) hbg).trans (h.nf i)
  have hg2 : w'.grownBy (w'.setCell ⟨g, 1, none⟩ (.slice A (M.wait.length + 1) c)) (some g) := set_own
  have hsz := hg.size
  refine ⟨Nat.lt_of_lt_of_le (Nat.lt_of_lt_of_le hlt hsz) hg2.size, fz_set fg _ _, cs_other (by omega) ((cg 0).trans h.c0), ?_, cs_other (by omega) ((cg 2).trans h.c2), cs_other (by omega) ((cg 3).trans h.c3), cs_other (by omega) ((cg 4).trans h.c4), cs_other (by omega) ((cg 5).trans h.c5),
    cs_other (by omega) ((cg 6).trans h.c6), cs_other (by omega) ((cg 7).trans h.c7), cs_other (by omega) ((cg 8).trans h.c8), ?_, ?_, ?_, h.lc, fun h0 b off e => ⟨(h.lg h0 b off e).1, ?_⟩⟩
  · rw [List.length_append]; exact cs_same ((cg 1).trans h.c1)
  · intro hn
    obtain ⟨b, off, e, hb, hc⟩ := h.hp hn
    refine ⟨b, off, e, hb, fun j u hu => (cell_g hg2 (by omega) (by omega)).trans (Eq.trans ?_ (hc j u hu))⟩
    exact World.cell?_of_block (a := ⟨b, off + j, none⟩) (hblk b (by omega) fun k hk => by have := (h.hw.lt k hk).1; omega)
  · rw [List.length_append, ints_snoc]; exact own_g ho hg2 (Nat.lt_succ_self g)
  · refine sl_g hg2 ?_ fun h0 b off e => by have := (h.lg h0 b off e).1; omega
    refine ⟨h.hl.1, fun hn => ?_⟩
    obtain ⟨b, off, e, hb, hc⟩ := h.hl.2 hn
    exact ⟨b, off, e, Nat.lt_of_lt_of_le hb hsz, fun j u hu => (World.cell?_of_block (a := ⟨b, off + j, none⟩) (hblk b hb (h.lg hn b off e).2)).trans (hc j u hu)⟩
  · intro k hk
    simp only [List.length_append, List.length_singleton] at hk
    rcases hat with e2 | e2
    · rw [e2] at hk; exact (h.lg h0 b off e).2 k hk
    · rw [e2] at hk
      injection hk with hk
      obtain ⟨b', off', e', hb', _⟩ := h.hl.2 h0
      rw [e] at e'
      have := (Sl.inj e').1
      omega
theorem numG_bd {s : List Nat} (hs : ∀ b ∈ s, b < 256) {v : Int} {n : Nat} (h : numG s = some (v, n)) : -33000 ≤ v ∧ v ≤ 33000 := by
  match s with
  | [] => cases h
  | b :: s =>
    have hb := hs b (by simp)
    simp only [numG] at h
    by_cases h1 : b ≤ 246
    · rw [if_pos h1] at h
      simp only [Option.some.injEq, Prod.mk.injEq] at h; omega
    · rw [if_neg h1] at h
      by_cases h2 : b = 255
      · rw [if_pos h2] at h
        match s with
        | [] => cases h
        | [_] => cases h
        | c :: d :: _ =>
          have hc := hs c (by simp)
          have hd := hs d (by simp)
          simp only [Option.some.injEq, Prod.mk.injEq] at h
          obtain ⟨h, _⟩ := h
          unfold i16 at h
          split at h <;> omega
      · rw [if_neg h2] at h
        match s with
        | [] => cases h
        | c :: _ =>
          have hc := hs c (by simp)
          simp only [Option.some.injEq, Prod.mk.injEq] at h
          obtain ⟨h, _⟩ := h
          split at h <;> omega
theorem GOK.push {M : GM} (h : GOK M) (h24 : M.wait.length ≠ 24) {v : Int} (hv : -33000 ≤ v ∧ v ≤ 33000) : GOK { M with wait := M.wait ++ [v] } :=
  ⟨by have := h.w24; simp only [List.length_append, List.length_singleton]; omega, fun z hz => by
    rcases List.mem_append.1 hz with hz | hz
    · exact h.wv z hz
    · rw [List.mem_singleton] at hz; subst hz; exact hv, h.x, h.y, h.may, h.wide, h.ops⟩
end Go.Proofs.Ytoehkfinchnadaa
