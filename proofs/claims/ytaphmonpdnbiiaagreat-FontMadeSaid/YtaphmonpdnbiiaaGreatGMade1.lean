/- tympanlaw40: bytes by numbers. -/
import Derived.Test.YtaphmonpdnbiiaaGreatMNum
import Derived.Test.YtaphmonpdnbiiaaGreatMGc
import Derived.Test.YtaphmonpdnbiiaaGreatMGl2
namespace Go.Proofs.YtaphmonpdnbiiaaGreat
open Go.RowKit Go.BigFrame

def u8c (xs : List Int) : List Value := xs.map (Value.int .u8)
theorem oneU8 (xs : List Int) : ∀ u ∈ u8c xs, u.oneCell' = true := by
  intro u hu; simp only [u8c, List.mem_map] at hu; obtain ⟨z, _, rfl⟩ := hu; rfl
theorem u8c_app (a b : List Int) : u8c (a ++ b) = u8c a ++ u8c b := by simp [u8c]
theorem ng_grow {w wr w2 : World} {g : Nat} {r : Option Nat} (h : w.grownBy wr (some g)) (hg : wr.grownBy w2 r) (hr : ∀ k, r = some k → w.heap.size ≤ k) : w.grownBy w2 (some g) :=
  ⟨hg.os.trans h.os, hg.tape.trans h.tape, hg.output.trans h.output, Nat.le_trans h.size hg.size, fun k hk hne => (hg.block k (Nat.lt_of_lt_of_le hk h.size) (fun e => by have := hr k e.symm; omega)).trans (h.block k hk hne)⟩
theorem ln_al {w : World} {g : Nat} (h : LN w g) (o : Obj) : LN (w.alloc o) g := LN_grown h (row := none) ⟨rfl, rfl, rfl, by simp, fun k hk _ => (bal (Below.refl w.heap.size w) o).block k hk⟩ (by intro k hk; cases hk)
/-- A row of bytes under way. -/
structure BS (w : World) (g : Nat) (W : World) (A : Option Addr) (m c : Nat) (xs : List Int) : Prop where
  own : W.ownsRow w.heap.size 5 1 (.slice A m c) m (u8c xs)
  ln : LN W g
  gr : w.grownBy W (some g)
section
variable {w W W' : World} {g m c : Nat} {A : Option Addr} {xs : List Int}
theorem BS.next (h : BS w g W A m c xs) (hgw : g < w.heap.size) (hl : LN W' g) (hg : W.grownBy W' (some g)) : BS w g W' A m c xs := ⟨own_g h.own hg hgw, hl, ggtr h.gr hg⟩
theorem BS.al (h : BS w g W A m c xs) (o : Obj) : BS w g (W.alloc o) A m c xs :=
  ⟨own_below h.own (bal (Below.refl _ _) _), ln_al h.ln o, ng_grow h.gr (r := none) ⟨rfl, rfl, rfl, by simp, fun k hk _ => (bal (Below.refl W.heap.size W) o).block k hk⟩ (by intro k hk; cases hk)⟩
theorem BS.app (h : BS w g W A m c xs) (hgw : g < w.heap.size) {A2 : Option Addr} {c2 k : Nat} {ys : List Int} (ho : W'.ownsRow w.heap.size 5 1 (.slice A2 (m + k) c2) (m + k) (u8c xs ++ u8c ys)) (hg : W.grownBy W' (Value.ownBlock (.slice A m c))) : BS w g W' A2 (m + k) c2 (xs ++ ys) :=
  ⟨by rw [u8c_app]; exact ho, LN_grown h.ln hg (fun k hk => by have := (h.own.lt k hk).1; omega), ng_grow h.gr hg (fun k hk => (h.own.lt k hk).1)⟩
theorem BS.sz (h : BS w g W A m c xs) : w.heap.size ≤ W.heap.size := h.gr.size
end
end Go.Proofs.YtaphmonpdnbiiaaGreat
