/- glyph.put: a number behind bytes. -/
import Derived.Test.YtoehkfinchnadaaGlyph12
import Derived.Test.YtoehkfinchnadaaAllP
namespace Go.Proofs.Ytoehkfinchnadaa
open Go.RowKit Go.BigFrame

/-- Bytes as cells. -/
def u8s (l : List Nat) : List Value := l.map fun b : Nat => Value.int .u8 (b : Int)
theorem u8s_app (a b : List Nat) : u8s (a ++ b) = u8s a ++ u8s b := by simp [u8s]
theorem u8T : SlT Try.prog 36 5 1 1 := slT_of Try.underlying36 (by kernel_rfl) (by omega) (by omega)
theorem oneCell_u8s (l : List Nat) : ∀ u ∈ u8s l, u.oneCell' = true := by
  intro u hu; simp only [u8s, List.mem_map] at hu; obtain ⟨b, _, rfl⟩ := hu; rfl
/-- A row that has grown, and what it has left alone. -/
def GrownRow (B : Nat) (w : World) (A : Option Addr) (n c : Nat) (l : List Nat) (e : Ending) (w' : World) : Prop :=
  ∃ (A' : Option Addr) (n' c' : Nat), e = .returned (.slice A' n' c') ∧ l.length = n' ∧ w'.ownsRow B 5 1 (.slice A' n' c') n' (u8s l) ∧ w.grownBy w' (Value.slice A n c).ownBlock ∧
    ((Value.slice A' n' c').ownBlock = (Value.slice A n c).ownBlock ∨ ∃ k, (Value.slice A' n' c').ownBlock = some k ∧ w.heap.size ≤ k)
theorem al_grown {w w2 : World} {o : Obj} {r : Option Nat} (h : (w.alloc o).grownBy w2 r) : w.grownBy w2 r :=
  ⟨h.os, h.tape, h.output, Nat.le_trans (by simp) h.size, fun k hk hne => (h.block k (by simp; omega) hne).trans ((bal (Below.refl _ _) o).block k hk)⟩

end Go.Proofs.Ytoehkfinchnadaa
