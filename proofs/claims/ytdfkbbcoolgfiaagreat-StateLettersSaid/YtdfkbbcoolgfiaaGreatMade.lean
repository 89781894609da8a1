/- L.seg and Made: a path by numbers. -/
import Derived.Test.YtdfkbbcoolgfiaaGreatMNum
import Derived.Test.YtdfkbbcoolgfiaaGreatAllP
namespace Go.Proofs.YtdfkbbcoolgfiaaGreat
open Go.RowKit

theorem sgT0 : SlT Tryz.prog 24 63 5 40 := slT_of Tryz.underlying24 (by kernel_rfl) (by omega) (by omega)

section
variable {w w' : World} {g : Nat}
theorem g2b (h : w.grownBy w' (some g)) : Below g w w' ∨ w.heap.size < g := by
  rcases Nat.lt_or_ge w.heap.size g with h0 | h0
  · exact .inr h0
  · exact .inl ⟨h.os, h.tape, h.output, h.size, fun k hk => h.block k (by omega) (by simp; omega)⟩
theorem g2b' (h : w.grownBy w' (some g)) (hg : g < w.heap.size) : Below g w w' := ⟨h.os, h.tape, h.output, h.size, fun k hk => h.block k (by omega) (by simp; omega)⟩
theorem LN_lt (h : LN w g) : g < w.heap.size := by obtain ⟨_, _, _, _, _, _, _, hg, _⟩ := h; exact hg
theorem LN_grown (h : LN w g) {row : Option Nat} (hg : w.grownBy w' row) (hr : ∀ k, row = some k → g < k) : LN w' g := by
  obtain ⟨A, n, c, hc, hf, hnc, hcm, hgl, hz⟩ := h
  have hb : ∀ k, k ≤ g → w'.heap[k]? = w.heap[k]? := fun k hk => hg.block k (by omega) (fun e => by have := hr k e.symm; omega)
  refine ⟨A, n, c, (World.cell?_of_block (a := ⟨g, 0, none⟩) (hb g (Nat.le_refl _))).trans hc, (World.frozen?_of_block (a := ⟨g, 0, none⟩) (hb g (Nat.le_refl _))).trans hf, hnc, hcm, Nat.lt_of_lt_of_le hgl hg.size, fun h0 => ?_⟩
  obtain ⟨b, off, rfl, hlt, hz⟩ := hz h0
  exact ⟨b, off, rfl, hlt, fun j hj => by
    obtain ⟨z, hz⟩ := hz j hj
    exact ⟨z, (World.cell?_of_block (a := ⟨b, off + j, none⟩) (hb b (by omega))).trans hz⟩⟩
/-- A row of blocks behind g is kept while block g is written. -/
theorem own_g {base : Nat} {e : TypeId} {s n : Nat} {v : Value} {xs : List Value} (h : w.ownsRow base e s v n xs) (hg : w.grownBy w' (some g)) (hb : g < base) : w'.ownsRow base e s v n xs :=
  h.kept hg (by
    cases hv : v.ownBlock with
    | none => exact .inl rfl
    | some k => refine .inr ?_; have := (h.lt k hv).1; intro e; injection e with e; omega)
theorem seg_end {w w3 w4 : World} {g B n c c' : Nat} {A A' : Option Addr} {l : List Sg} {s : Sg} {o : Obj} (h0 : Below g w w3) (h3 : LN w3 g) (hown3 : w3.ownsRow B 63 5 (.slice A n c) n (sgs l)) (hgB : g < B)
    (hg4 : (w3.alloc o).grownBy w4 (Value.ownBlock (.slice A n c))) (hown4 : w4.ownsRow B 63 5 (.slice A' (n + 1) c') (n + 1) (sgs l ++ sgc s)) :
    w4.ownsRow B 63 5 (.slice A' (n + 1) c') (n + 1) (sgs (l ++ [s])) ∧ LN w4 g ∧ Below g w w4 := by
  have hr : ∀ k, Value.ownBlock (.slice A n c) = some k → g < k := fun k hk => Nat.lt_of_lt_of_le hgB (hown3.lt k hk).1
  refine ⟨by rw [sgs_app, sgs_one]; exact hown4, LN_grown (LN_alloc h3 o) hg4 hr, ?_⟩
  exact (h0.alloc (Nat.le_of_lt (LN_lt h3)) o).grown hg4 (by have := LN_lt h3; simp; omega) (fun k hk => Nat.le_of_lt (hr k hk))
end



/-- A slice's length. -/
def lenOf : Value → Nat | .slice _ n _ => n | _ => 0

end Go.Proofs.YtdfkbbcoolgfiaaGreat
