/- A cheap test for a long region that only reads: every operation writes its own slot, looks only at slots ahead, and names what it waits for. It implies Region.lexB. -/
import Derived.Deep.QuietTactic
namespace Go.Proofs.Ytacolepcpbhceaa

def lexQ (base : Nat) : Nat → List Oper → Bool
  | _, [] => true
  | k, o :: l =>
    (match o.op with | .select .. => false | _ => true) && o.dst == some (base + k) && o.after.toList.all (fun e => decide (e.on < k)) &&
    (o.op.operands.toList.all fun
      | .tmp t => decide (t < base) || o.after.toList.any fun e => Region.binds .any e && base + e.on == t
      | _ => true) &&
    (match o.guard with
      | some (g, _) => o.after.toList.any fun e => Region.binds .any e && e.on == g
      | none => true) && lexQ base (k + 1) l

structure LexO (base k : Nat) (o : Oper) : Prop where
  sel : (match o.op with | .select .. => false | _ => true) = true
  dst : o.dst = some (base + k)
  aft : ∀ e ∈ o.after, e.on < k
  ops : ∀ t, Operand.tmp t ∈ o.op.operands → t < base ∨ ∃ e ∈ o.after, Region.binds .any e = true ∧ base + e.on = t
  grd : ∀ g b, o.guard = some (g, b) → ∃ e ∈ o.after, Region.binds .any e = true ∧ e.on = g

theorem lexQ_get {base : Nat} : ∀ (l : List Oper) (k : Nat), lexQ base k l = true → ∀ i (h : i < l.length), LexO base (k + i) l[i]
  | o :: l, k, hq, 0, _ => by
    simp only [lexQ, Bool.and_eq_true] at hq
    obtain ⟨⟨⟨⟨⟨h1, h2⟩, h3⟩, h4⟩, h5⟩, _⟩ := hq
    refine ⟨h1, by simpa using h2, fun e he => ?_, fun t ht => ?_, fun g b hg => ?_⟩
    · have := List.all_eq_true.1 h3 e (by simpa using he)
      simpa using this
    · have := List.all_eq_true.1 h4 (.tmp t) (by simpa using ht)
      simp only [Bool.or_eq_true, decide_eq_true_eq, List.any_eq_true, Bool.and_eq_true, beq_iff_eq] at this
      rcases this with h | ⟨e, he, h⟩
      · exact .inl h
      · exact .inr ⟨e, by simpa using he, h⟩
    · simp only [List.getElem_cons_zero] at hg
      rw [hg] at h5
      simp only [List.any_eq_true, Bool.and_eq_true, beq_iff_eq] at h5
      obtain ⟨e, he, h⟩ := h5
      exact ⟨e, by simpa using he, h⟩
  | o :: l, k, hq, i + 1, h => by
    simp only [lexQ, Bool.and_eq_true] at hq
    have := lexQ_get l (k + 1) hq.2 i (by simpa using h)
    rw [show k + (i + 1) = k + 1 + i by omega]
    simpa using this

section
variable {base : Nat} {ops : Array Oper} (H : ∀ i (h : i < ops.size), LexO base i ops[i])
include H

theorem lex_looks {j : Nat} (hj : j < ops.size) {t : Nat} (ht : t ∈ ops[j].looksAt ops) : t < base ∨ ∃ e ∈ ops[j].after, Region.binds .any e = true ∧ base + e.on = t := by
  unfold Oper.looksAt at ht
  rw [List.mem_append] at ht
  rcases ht with ht | ht
  · rw [List.mem_filterMap] at ht
    obtain ⟨x, hx, hxt⟩ := ht
    cases x <;> simp at hxt
    subst hxt
    exact (H j hj).ops _ (by simpa using hx)
  · cases hg : ops[j].guard with
    | none => rw [hg] at ht; simp at ht
    | some p =>
      obtain ⟨g, b⟩ := p
      rw [hg] at ht
      obtain ⟨e, he, hb, hon⟩ := (H j hj).grd g b hg
      have hgj : g < ops.size := by have := (H j hj).aft e he; omega
      dsimp only at ht
      rw [Array.getElem?_eq_getElem hgj] at ht
      simp only [Option.bind_some, (H g hgj).dst, Option.toList_some, List.mem_singleton] at ht
      exact .inr ⟨e, he, hb, by rw [hon, ht]⟩

theorem lex_free {k : Nat} (hk : k < ops.size) (listed : Array Bool) (hl : ∀ j, j < ops.size → listed.getD j true = decide (j < k)) : Region.free .any ops listed k = true := by
  unfold Region.free
  rw [Array.getElem?_eq_getElem hk]
  simp only [List.all_eq_true, List.mem_range, Bool.or_eq_true, beq_iff_eq]
  intro j hj
  rw [Array.getElem?_eq_getElem hj, hl j hj]
  by_cases hjk : j = k
  · exact .inl (.inl hjk)
  · by_cases hjl : j < k
    · exact .inl (.inr (by simpa using hjl))
    · refine .inr ?_
      simp only [Bool.or_eq_true]
      by_cases ha : ∃ e ∈ ops[j].after, Region.binds .any e = true ∧ e.on = k
      · left
        obtain ⟨e, he, hb, hon⟩ := ha
        rw [Array.any_eq_true']
        exact ⟨e, he, by simp [hb, hon]⟩
      · right
        unfold Oper.apart
        rw [(H k hk).dst, (H j hj).dst]
        simp only [Bool.and_eq_true, Bool.not_eq_true', bne_iff_ne, ne_eq, Option.some.injEq]
        refine ⟨⟨?_, by omega⟩, ?_⟩
        · rw [← Bool.not_eq_true, List.contains_iff_mem]
          intro hc
          rcases lex_looks H hj hc with h | ⟨e, he, hb, hon⟩
          · omega
          · exact ha ⟨e, he, hb, by omega⟩
        · rw [← Bool.not_eq_true, List.contains_iff_mem]
          intro hc
          rcases lex_looks H hk hc with h | ⟨e, he, _, hon⟩
          · omega
          · have := (H k hk).aft e he; omega

theorem lex_ready {k : Nat} (hk : k < ops.size) (listed : Array Bool) (hl : ∀ j, j < ops.size → listed.getD j true = decide (j < k)) (hl' : ∀ j, j < k → listed.getD j false = true) :
    (Region.ready .any ops listed).contains k = true := by
  rw [List.contains_iff_mem]
  unfold Region.ready
  rw [List.mem_filter, List.mem_range]
  refine ⟨hk, ?_⟩
  rw [hl k hk, Array.getElem?_eq_getElem hk]
  simp only [Nat.lt_irrefl, decide_false, Bool.not_false, Bool.true_and, Option.map_some, Option.getD_some]
  rw [Array.all_eq_true']
  intro e he
  rw [hl' _ ((H k hk).aft e he)]
  simp

theorem lex_from : ∀ (fuel k : Nat) (listed : Array Bool), k + fuel = ops.size → listed.size = ops.size → (∀ j (h : j < listed.size), listed[j] = decide (j < k)) →
    Region.lexFrom .any ops fuel k listed = true
  | 0, k, listed, hk, hs, hl => by
    unfold Region.lexFrom Region.ready
    rw [List.isEmpty_iff, List.filter_eq_nil_iff]
    intro i hi
    rw [List.mem_range] at hi
    have h1 : listed.getD i true = true := by
      rw [Array.getD_eq_getD_getElem?, Array.getElem?_eq_getElem (by omega), Option.getD_some, hl i (by omega)]; simp; omega
    simp [h1]
  | fuel + 1, k, listed, hk, hs, hl => by
    have hk' : k < ops.size := by omega
    have hd : ∀ j, j < ops.size → listed.getD j true = decide (j < k) := fun j hj => by
      rw [Array.getD_eq_getD_getElem?, Array.getElem?_eq_getElem (by omega), Option.getD_some, hl j (by omega)]
    have hd' : ∀ j, j < k → listed.getD j false = true := fun j hj => by
      rw [Array.getD_eq_getD_getElem?, Array.getElem?_eq_getElem (by omega), Option.getD_some, hl j (by omega)]; simpa using hj
    unfold Region.lexFrom
    rw [lex_ready H hk' listed hd hd', lex_free H hk' listed hd]
    simp only [Bool.true_and]
    refine lex_from fuel (k + 1) _ (by omega) (by simpa using hs) fun j hj => ?_
    have hj' : j < listed.size := by simpa using hj
    rw [Array.getElem_setIfInBounds hj']
    split
    · rename_i h; subst h; simp
    · rw [hl j hj']; simp; omega
end

theorem lexB_of {base : Nat} {l : List Oper} (h : lexQ base 0 l = true) : Region.lexB .any l.toArray = true := by
  have H : ∀ i (hi : i < l.toArray.size), LexO base i l.toArray[i] := fun i hi => by
    have := lexQ_get l 0 h i (by simpa using hi)
    simpa using this
  unfold Region.lexB
  rw [Bool.and_eq_true]
  refine ⟨?_, lex_from H _ 0 _ (by omega) (by simp) (fun j hj => by simp)⟩
  unfold Region.noSelect
  rw [Array.all_eq_true]
  intro i hi
  exact (H i hi).sel

end Go.Proofs.Ytacolepcpbhceaa
