/- A region that draws its order: two that may come up, shown in both orders; a goal shown once. -/
import Derived.Test.YtdfkbbcoolgfiaaGreatAllP
namespace Go.Proofs.YtdfkbbcoolgfiaaGreat
open Go.RowKit

theorem cutT {α β : Prop} (h : α → β) (l : α) : β := h l
section
variable {P : Program} {md : Region.Mode} {ops : Array Oper} {S : World → Prop} {Q : Exit → Act → World → Prop}
theorem ord_eq {c : List Nat} {fuel : Nat} {listed listed' : Array Bool} {a : Act} {w : World} (h : listed = listed') (H : wpAnyN P md ops Q S c fuel listed' a w) : wpAnyN P md ops Q S c fuel listed a w := h ▸ H
/-- Two may come up. -/
theorem ord_two {c : List Nat} {fuel : Nat} {listed : Array Bool} {a : Act} {w : World} (i j : Nat) {oi oj : Oper} (hi : ops[i]? = some oi) (hj : ops[j]? = some oj) (hr : Region.ready md ops listed = [i, j]) (hic : c.contains i = false) (hjc : c.contains j = false)
    (h1 : ∀ K : Act → World → Prop, Hid (∀ a' w', S w' → wpAnyN P md ops Q S c fuel (listed.setIfInBounds i true) a' w' → K a' w') → if Region.wanted oi (yielded ops a.tmps) = true then Oper.wp P oi a w K Q else K (a.put oi.dst undef) w)
    (h2 : ∀ K : Act → World → Prop, Hid (∀ a' w', S w' → wpAnyN P md ops Q S c fuel (listed.setIfInBounds j true) a' w' → K a' w') → if Region.wanted oj (yielded ops a.tmps) = true then Oper.wp P oj a w K Q else K (a.put oj.dst undef) w) :
    wpAnyN P md ops Q S c (fuel + 1) listed a w := by
  have key : ∀ (k : Nat) (o : Oper), ops[k]? = some o → (∀ K : Act → World → Prop, Hid (∀ a' w', S w' → wpAnyN P md ops Q S c fuel (listed.setIfInBounds k true) a' w' → K a' w') → if Region.wanted o (yielded ops a.tmps) = true then Oper.wp P o a w K Q else K (a.put o.dst undef) w) →
      wpOp P ops Q k (fun a' w' => S w' ∧ wpAnyN P md ops Q S c fuel (listed.setIfInBounds k true) a' w') a w := fun k o ho h => by
    unfold wpOp
    simp only [ho]
    have h3 := h (fun a' w' => S w' ∧ wpAnyN P md ops Q S c fuel (listed.setIfInBounds k true) a' w') (Lib.hid fun _ _ h1 h2 => And.intro h1 h2)
    by_cases hw : Region.wanted o (yielded ops a.tmps) = true
    · rw [if_pos hw] at h3 ⊢; exact .inl h3
    · rw [if_neg hw] at h3 ⊢; exact h3
  refine ⟨fun he => (by rw [hr] at he; cases he), fun k hk => ?_⟩
  rw [hr] at hk
  simp only [List.mem_cons, List.not_mem_nil, or_false] at hk
  rcases hk with rfl | rfl
  · rw [if_pos hic]; exact key _ _ hi h1
  · rw [if_pos hjc]; exact key _ _ hj h2
end
end Go.Proofs.YtdfkbbcoolgfiaaGreat
