/- Rows of whole numbers of one's own, whatever they are: what a loop that writes them keeps. -/
import Derived.Test.YtaadajadeemndaaStFill
namespace Go.Proofs.Ytaadajadeemndaa
open Go.RowKit Go.BigFrame

/-- A row of one's own whose cells are numbers. -/
def RowI (w : World) (B : Nat) (T : TypeId) (s : Nat) (V : Value) (n : Nat) : Prop := ∃ xs, (∀ v ∈ xs, ∃ z, v = .int .i64 z) ∧ w.ownsRow B T s V n xs
section
variable {w w' : World} {B B' : Nat} {T : TypeId} {s n : Nat} {V : Value}
theorem RowI.below (h : RowI w B T s V n) (hb : Below w.heap.size w w') : RowI w' B T s V n := by
  obtain ⟨xs, h1, h2⟩ := h
  exact ⟨xs, h1, own_below h2 hb⟩
theorem RowI.mono (h : RowI w B T s V n) (hb : B' ≤ B) : RowI w B' T s V n := by
  obtain ⟨xs, h1, h2⟩ := h
  exact ⟨xs, h1, own_mono h2 hb⟩
theorem RowI.other (h : RowI w B T s V n) {g : Nat} (hg : V.ownBlock ≠ some g) (o : Nat) (u : Value) : RowI (w.setCell ⟨g, o, none⟩ u) B T s V n := by
  obtain ⟨xs, h1, h2⟩ := h
  exact ⟨xs, h1, ownsRow_setCell_other h2 hg u⟩
theorem RowI.lt (h : RowI w B T s V n) {k : Nat} (hk : V.ownBlock = some k) : B ≤ k ∧ k < w.heap.size := by
  obtain ⟨xs, _, h2⟩ := h
  exact h2.lt k hk
theorem RowI.sg {l : List Sg} (h : w.ownsRow B T 5 V n (sgs l)) : RowI w B T 5 V n := by
  refine ⟨_, fun v hv => ?_, h⟩
  rw [sgs, List.mem_flatMap] at hv
  obtain ⟨q, _, hq⟩ := hv
  simp only [sgc, List.mem_cons, List.not_mem_nil, or_false] at hq
  rcases hq with rfl | rfl | rfl | rfl | rfl <;> exact ⟨_, rfl⟩
theorem RowI.ints {l : List Int} (h : w.ownsRow B T 1 V n (ints l)) : RowI w B T 1 V n := by
  refine ⟨_, fun v hv => ?_, h⟩
  simp only [Go.Proofs.Ytaadajadeemndaa.ints, List.mem_map] at hv
  obtain ⟨z, _, rfl⟩ := hv
  exact ⟨_, rfl⟩
theorem RowI.addr {A : Option Addr} {c : Nat} (h : RowI w B T s (.slice A n c) n) (hn : 0 < n) : ∃ g, A = some ⟨g, 0, none⟩ ∧ B ≤ g ∧ g < w.heap.size ∧ (Value.slice A n c).ownBlock = some g := by
  obtain ⟨xs, _, h2⟩ := h
  obtain ⟨g, rfl, h3, h4⟩ := own_addr h2 hn
  exact ⟨g, rfl, h3, h4, rfl⟩
/-- A cell of it is read, and written. -/
theorem RowI.at {g c : Nat} (h : RowI w B T s (.slice (some ⟨g, 0, none⟩) n c) n) (j : Nat) (hj : j < n * s) :
    ∃ z, w.cell? ⟨g, j, none⟩ = some (.int .i64 z) ∧ w.frozen? ⟨g, j, none⟩ = false ∧ ∀ z', RowI (w.setCell ⟨g, j, none⟩ (.int .i64 z')) B T s (.slice (some ⟨g, 0, none⟩) n c) n := by
  obtain ⟨xs, h1, h2⟩ := h
  have hl : xs.length = n * s := h2.1
  obtain ⟨z, hz⟩ := h1 xs[j] (List.getElem_mem (by omega))
  refine ⟨z, ?_, h2.frozenAt j, fun z' => ⟨xs.set j (.int .i64 z'), fun v hv => ?_, (h2.stored j _).1⟩⟩
  · rw [h2.cellAt j hj, List.getElem?_eq_getElem (by omega), hz]
  · rcases List.mem_or_eq_of_mem_set hv with hv | rfl
    · exact h1 v hv
    · exact ⟨_, rfl⟩
end
/-- A new block into which a mark is written whole. -/
theorem put_newI {W : World} {vs : List Value} (hl : vs.length = 21) : ∃ W', W' = (W.alloc (.cells (itC zeroI (.slice none 0 0) (.slice none 0 0)).toArray 53)).setCells W.heap.size 0 vs ∧ BC W' W.heap.size vs ∧
    Below W.heap.size W W' ∧ BC (W.alloc (.cells (itC zeroI (.slice none 0 0) (.slice none 0 0)).toArray 53)) W.heap.size (itC zeroI (.slice none 0 0) (.slice none 0 0)) := by
  have h := BC.new (w := W) (g := W.heap.size) (itC zeroI (.slice none 0 0) (.slice none 0 0)) 53 rfl
  exact ⟨_, rfl, h.putAll vs (by rw [hl]; rfl), below_setCells (Nat.le_refl _) _ _ _ (bal (Below.refl _ _) _), h⟩
end Go.Proofs.Ytaadajadeemndaa
