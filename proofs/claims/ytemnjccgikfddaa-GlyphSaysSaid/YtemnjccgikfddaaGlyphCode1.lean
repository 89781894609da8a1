/- glyph.put: a number behind bytes. -/
import Derived.Test.YtemnjccgikfddaaGlyph12
import Derived.Test.YtemnjccgikfddaaAllP
namespace Go.Proofs.Ytemnjccgikfddaa
open Go.RowKit Go.BigFrame

/-- Bytes as cells. -/
def u8s (l : List Nat) : List Value := l.map fun b : Nat => Value.int .u8 (b : Int)
theorem u8s_app (a b : List Nat) : u8s (a ++ b) = u8s a ++ u8s b := by simp [u8s]
theorem u8T : SlT Try.prog 41 5 1 1 := slT_of Try.underlying41 (by kernel_rfl) (by omega) (by omega)
theorem oneCell_u8s (l : List Nat) : ∀ u ∈ u8s l, u.oneCell' = true := by
  intro u hu; simp only [u8s, List.mem_map] at hu; obtain ⟨b, _, rfl⟩ := hu; rfl
/-- A row that has grown, and what it has left alone. -/
def GrownRow (B : Nat) (w : World) (A : Option Addr) (n c : Nat) (l : List Nat) (e : Ending) (w' : World) : Prop :=
  ∃ (A' : Option Addr) (n' c' : Nat), e = .returned (.slice A' n' c') ∧ l.length = n' ∧ w'.ownsRow B 5 1 (.slice A' n' c') n' (u8s l) ∧ w.grownBy w' (Value.slice A n c).ownBlock ∧
    ((Value.slice A' n' c').ownBlock = (Value.slice A n c).ownBlock ∨ ∃ k, (Value.slice A' n' c').ownBlock = some k ∧ w.heap.size ≤ k)
theorem al_grown {w w2 : World} {o : Obj} {r : Option Nat} (h : (w.alloc o).grownBy w2 r) : w.grownBy w2 r :=
  ⟨h.os, h.tape, h.output, Nat.le_trans (by simp) h.size, fun k hk hne => (h.block k (by simp; omega) hne).trans ((bal (Below.refl _ _) o).block k hk)⟩

set_option maxRecDepth 100000 in
set_option maxHeartbeats 1000000 in
theorem put_any (A : Option Addr) (n c : Nat) (v : Int) (l : List Nat) (B : Nat) (w : World) (hown : w.ownsRow B 5 1 (.slice A n c) n (u8s l)) (hB : B ≤ w.heap.size) (hn : n ≤ 100000) (hv : -32768 ≤ v ∧ v ≤ 32767) :
    Calls Try.prog 23 #[.slice A n c, .int .i64 v] w (GrownRow B w A n c (l ++ putG v)) := by
  have hl : l.length = n := by have := hown.1; simp [u8s] at this; omega
  have HL := Lib.hid hl
  clear hl
  have wb : ∀ b : Nat, b < 256 → IntKind.u8.wrap (b : Int) = (b : Int) := fun b hb => by simp only [IntKind.wrap, IntKind.signed, IntKind.bits]; simp; omega
  by_cases h1 : -107 ≤ v ∧ v ≤ 107
  · have hP : putG v = [(v + 139).toNat] := by unfold putG; rw [if_pos h1]
    obtain ⟨h1a, h1b⟩ := h1
    obtain ⟨b, hb⟩ : ∃ b : Nat, (v + 139).toNat = b := ⟨_, rfl⟩
    have hb2 : v + 139 = (b : Int) := by omega
    have hb3 : b < 256 := by omega
    rw [hP, hb]
    have wv := wb b hb3
    have d1 : decide (v ≥ -107) = true := by simp; omega
    have d2 : decide (v ≤ 107) = true := by simp; omega
    clear hP hb wb
    go_enter Try.func23, Try.ntmps23
    go_wp2_with (at_builtin; refine wpList_app rfl _ _ 41 rfl B u8T rfl (own_below hown (bal (Below.refl _ _) _)) (u8s [b]) rfl (sl_new _ rfl rfl) (oneCell_u8s _) (by omega) (Nat.le_trans hB (bal (Below.refl _ _) _).size) ?_; intro A2 c2 w2 hown2 hg2 hat2)
    go_ret
    refine ⟨A2, n + 1, c2, rfl, by rw [List.length_append, HL.out]; rfl, by rw [u8s_app]; exact hown2, al_grown hg2, ?_⟩
    rcases hat2 with h | h
    · exact .inl h
    · exact .inr ⟨_, h, by simp⟩
  · have d1 : (decide (v ≥ -107) && decide (v ≤ 107)) = false := by simp; omega
    by_cases h2 : 108 ≤ v ∧ v ≤ 1131
    · have hP : putG v = [(247 + (v - 108) / 256).toNat, ((v - 108) % 256).toNat] := by unfold putG; rw [if_neg h1, if_pos h2]
      obtain ⟨h2a, h2b⟩ := h2
      have g1 : decide (v ≥ -107) = true := by simp; omega
      have g2 : decide (v ≤ 107) = false := by simp; omega
      have g3 : decide (v ≥ 108) = true := by simp; omega
      have g4 : decide (v ≤ 1131) = true := by simp; omega
      obtain ⟨b, hb⟩ : ∃ b : Nat, (247 + (v - 108) / 256).toNat = b := ⟨_, rfl⟩
      obtain ⟨c', hc'⟩ : ∃ b : Nat, ((v - 108) % 256).toNat = b := ⟨_, rfl⟩
      have hb2 : 247 + (v - 108) / 256 = (b : Int) := by omega
      have hc2 : (v - 108) % 256 = (c' : Int) := by omega
      have q1 : (v - 108).tdiv 256 = (v - 108) / 256 := Int.tdiv_eq_ediv_of_nonneg (by omega)
      have q2 : (v - 108).tmod 256 = (v - 108) % 256 := Int.tmod_eq_emod_of_nonneg (by omega)
      have wv := wb b (by omega)
      have wc := wb c' (by omega)
      rw [hP, hb, hc']
      clear hP hb hc' wb h1
      go_enter Try.func23, Try.ntmps23
      go_wp2_with (at_builtin; refine wpList_app rfl _ _ 41 rfl B u8T rfl (own_below hown (bal (Below.refl _ _) _)) (u8s [b, c']) rfl (sl_new _ rfl rfl) (oneCell_u8s _) (by omega) (Nat.le_trans hB (bal (Below.refl _ _) _).size) ?_; intro A2 c2 w2 hown2 hg2 hat2)
      go_ret
      refine ⟨A2, n + 2, c2, rfl, by rw [List.length_append, HL.out]; rfl, by rw [u8s_app]; exact hown2, al_grown hg2, ?_⟩
      rcases hat2 with h | h
      · exact .inl h
      · exact .inr ⟨_, h, by simp⟩
    · by_cases h3 : -1131 ≤ v ∧ v ≤ -108
      · have hP : putG v = [(251 + (-v - 108) / 256).toNat, ((-v - 108) % 256).toNat] := by unfold putG; rw [if_neg h1, if_neg h2, if_pos h3]
        obtain ⟨h3a, h3b⟩ := h3
        have g1 : decide (v ≥ -107) = false := by simp; omega
        have g3 : decide (v ≥ 108) = false := by simp; omega
        have g5 : decide (v ≥ -1131) = true := by simp; omega
        have g6 : decide (v ≤ -108) = true := by simp; omega
        obtain ⟨b, hb⟩ : ∃ b : Nat, (251 + (-v - 108) / 256).toNat = b := ⟨_, rfl⟩
        obtain ⟨c', hc'⟩ : ∃ b : Nat, ((-v - 108) % 256).toNat = b := ⟨_, rfl⟩
        have hb2 : 251 + (-v - 108) / 256 = (b : Int) := by omega
        have hc2 : (-v - 108) % 256 = (c' : Int) := by omega
        have q1 : (-v - 108).tdiv 256 = (-v - 108) / 256 := Int.tdiv_eq_ediv_of_nonneg (by omega)
        have q2 : (-v - 108).tmod 256 = (-v - 108) % 256 := Int.tmod_eq_emod_of_nonneg (by omega)
        have wv := wb b (by omega)
        have wc := wb c' (by omega)
        rw [hP, hb, hc']
        clear hP hb hc' wb h1 h2
        go_enter Try.func23, Try.ntmps23
        go_wp2_with (at_builtin; refine wpList_app rfl _ _ 41 rfl B u8T rfl (own_below hown (bal (Below.refl _ _) _)) (u8s [b, c']) rfl (sl_new _ rfl rfl) (oneCell_u8s _) (by omega) (Nat.le_trans hB (bal (Below.refl _ _) _).size) ?_; intro A2 c2 w2 hown2 hg2 hat2)
        go_ret
        refine ⟨A2, n + 2, c2, rfl, by rw [List.length_append, HL.out]; rfl, by rw [u8s_app]; exact hown2, al_grown hg2, ?_⟩
        rcases hat2 with h | h
        · exact .inl h
        · exact .inr ⟨_, h, by simp⟩
      · have hP : putG v = [255, ((v / 256) % 256).toNat, (v % 256).toNat] := by unfold putG; rw [if_neg h1, if_neg h2, if_neg h3]
        obtain ⟨b, hb⟩ : ∃ b : Nat, ((v / 256) % 256).toNat = b := ⟨_, rfl⟩
        obtain ⟨c', hc'⟩ : ∃ b : Nat, (v % 256).toNat = b := ⟨_, rfl⟩
        have hb2 : (v / 256) % 256 = (b : Int) := by omega
        have hc2 : v % 256 = (c' : Int) := by omega
        rw [hP, hb, hc']
        rcases Int.lt_or_le v 0 with hs | hs
        · have g1 : decide (v ≥ -107) = false := by simp; omega
          have g3 : decide (v ≥ 108) = false := by simp; omega
          have g5 : decide (v ≥ -1131) = false := by simp; omega
          clear hP hb hc' wb h1 h2 h3
          go_enter Try.func23, Try.ntmps23
          go_wp2_with (at_builtin; refine wpList_app rfl _ _ 41 rfl B u8T rfl (own_below hown (bal (Below.refl _ _) _)) (u8s [255, b, c']) rfl (sl_new _ rfl rfl) (oneCell_u8s _) (by omega) (Nat.le_trans hB (bal (Below.refl _ _) _).size) ?_; intro A2 c2 w2 hown2 hg2 hat2)
          go_ret
          refine ⟨A2, n + 3, c2, rfl, by rw [List.length_append, HL.out]; rfl, by rw [u8s_app]; exact hown2, al_grown hg2, ?_⟩
          rcases hat2 with h | h
          · exact .inl h
          · exact .inr ⟨_, h, by simp⟩
        · have g1 : decide (v ≥ -107) = true := by simp; omega
          have g2 : decide (v ≤ 107) = false := by simp; omega
          have g3 : decide (v ≥ 108) = true := by simp; omega
          have g4 : decide (v ≤ 1131) = false := by simp; omega
          have g5 : decide (v ≥ -1131) = true := by simp; omega
          have g6 : decide (v ≤ -108) = false := by simp; omega
          have hb4 : v / 256 = (b : Int) := by omega
          clear hP hb hc' wb h1 h2 h3
          go_enter Try.func23, Try.ntmps23
          go_wp2_with (at_builtin; refine wpList_app rfl _ _ 41 rfl B u8T rfl (own_below hown (bal (Below.refl _ _) _)) (u8s [255, b, c']) rfl (sl_new _ rfl rfl) (oneCell_u8s _) (by omega) (Nat.le_trans hB (bal (Below.refl _ _) _).size) ?_; intro A2 c2 w2 hown2 hg2 hat2)
          go_ret
          refine ⟨A2, n + 3, c2, rfl, by rw [List.length_append, HL.out]; rfl, by rw [u8s_app]; exact hown2, al_grown hg2, ?_⟩
          rcases hat2 with h | h
          · exact .inl h
          · exact .inr ⟨_, h, by simp⟩
end Go.Proofs.Ytemnjccgikfddaa
