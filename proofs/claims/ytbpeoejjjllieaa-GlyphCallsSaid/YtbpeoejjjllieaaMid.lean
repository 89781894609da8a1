/- Blocks between two numbers are kept while a row that lies elsewhere is written. -/
import Derived.Test.YtbpeoejjjllieaaApp
namespace Go.Proofs.Ytbpeoejjjllieaa
open Go.RowKit

/-- The blocks from lo up to hi are as they were. -/
def Mid (lo hi : Nat) (w wi : World) : Prop := hi ≤ wi.heap.size ∧ ∀ b, lo ≤ b → b < hi → wi.heap[b]? = w.heap[b]?
/-- A slice's own row lies in none of the blocks from lo up to hi. -/
def Off (lo hi : Nat) (v : Value) : Prop := ∀ k, v.ownBlock = some k → k < lo ∨ hi ≤ k

section
variable {lo hi : Nat} {w wi w' : World} {v v' : Value}
theorem Mid.refl (lo : Nat) (w : World) : Mid lo w.heap.size w w := ⟨Nat.le_refl _, fun _ _ _ => rfl⟩
theorem Mid.bel (h : Mid lo hi w wi) (hb : Below wi.heap.size wi w') : Mid lo hi w w' := ⟨Nat.le_trans h.1 hb.size, fun b h1 h2 => (hb.block b (Nat.lt_of_lt_of_le h2 h.1)).trans (h.2 b h1 h2)⟩
theorem Mid.grown (h : Mid lo hi w wi) (ho : Off lo hi v) (hg : wi.grownBy w' v.ownBlock) : Mid lo hi w w' :=
  ⟨Nat.le_trans h.1 hg.size, fun b h1 h2 => (hg.block b (Nat.lt_of_lt_of_le h2 h.1) (fun e => by have := ho b e.symm; omega)).trans (h.2 b h1 h2)⟩
theorem Off.next (h : Off lo hi v) (hat : v'.ownBlock = v.ownBlock ∨ v'.ownBlock = some wi.heap.size) (hm : hi ≤ wi.heap.size) : Off lo hi v' := by
  intro k hk
  rcases hat with e | e
  · exact h k (e ▸ hk)
  · rw [e] at hk; injection hk with hk; exact .inr (by omega)
theorem Off.nil : Off lo hi (.slice none 0 0) := fun k hk => by simp [Value.ownBlock] at hk
theorem Mid.cell (h : Mid lo hi w wi) {b o : Nat} (h1 : lo ≤ b) (h2 : b < hi) : wi.cell? ⟨b, o, none⟩ = w.cell? ⟨b, o, none⟩ := World.cell?_of_block (a := ⟨b, o, none⟩) (h.2 b h1 h2)
theorem Mid.own {base : Nat} {e : TypeId} {s n : Nat} {xs : List Value} (h : Mid lo w.heap.size w wi) (hl : lo ≤ base) (ho : w.ownsRow base e s v n xs) : wi.ownsRow base e s v n xs := by
  refine ⟨ho.1, ?_⟩
  rcases ho.2 with h0 | ⟨g, cap, cur, hv, hb, hg, rest⟩
  · exact .inl h0
  · exact .inr ⟨g, cap, cur, hv, hb, (h.2 g (by omega) (Array.getElem?_eq_some_iff.1 hg).1).trans hg, rest⟩
/-- A row among the blocks that were there lies in none of those that came later. -/
theorem Off.old {base : Nat} {e : TypeId} {s n : Nat} {xs : List Value} (ho : w.ownsRow base e s v n xs) (hi : Nat) : Off w.heap.size hi v := fun k hk => .inl (ho.lt k hk).2
/-- A box that was laid ahead of an append onto an older row is kept. -/
theorem box_kept {w w3 : World} {cs : Array Value} {t e : TypeId} {o : Obj} {A : Option Addr} {m c B s : Nat} {xs : List Value} (hown : w.ownsRow B e s (.slice A m c) m xs)
    (hg : ((w.alloc (.cells cs t)).alloc o).grownBy w3 (Value.ownBlock (.slice A m c))) (i : Nat) : w3.cell? ⟨w.heap.size, i, none⟩ = cs[i]? := by
  have hmd := ((Mid.refl w.heap.size (w.alloc (.cells cs t))).bel (bal (Below.refl _ _) o)).grown (Off.old hown _) hg
  exact (hmd.cell (Nat.le_refl _) (by simp)).trans (new_cell _ i)
end

end Go.Proofs.Ytbpeoejjjllieaa
