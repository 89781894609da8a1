/- append onto a slice of the call's own, the source whatever slice: one law; and what an owned row gives. -/
import Derived.Test.YtbpeoejjjllieaaBase
import Derived.Maps.AppendAt
import Derived.Deep.RegionLaw
namespace Go.Proofs.Ytbpeoejjjllieaa
open Go.RowKit

/-- t is a slice type of elements e, of so many cells and bytes. -/
def SlT (P : Program) (t e : TypeId) (size bytes : Nat) : Prop :=
  P.underlying t = some (.slice e) ∧ ∃ i z, P.info? e = some i ∧ i.zero = some z ∧ i.size = size ∧ i.bytes = bytes ∧ z.cells.size = size ∧ 0 < size ∧ bytes ≤ 1000

theorem slT_of {P : Program} {t e : TypeId} {size bytes : Nat} (hu : P.underlying t = some (.slice e))
    (h : (P.info? e).map (fun i => (i.zero.map (fun z => z.cells.size), i.size, i.bytes)) = some (some size, size, bytes)) (h0 : 0 < size) (hb : bytes ≤ 1000) : SlT P t e size bytes := by
  refine ⟨hu, ?_⟩
  cases hi : P.info? e with
  | none => simp [hi] at h
  | some i =>
    cases hz : i.zero with
    | none => simp [hi, hz] at h
    | some z =>
      simp [hi, hz] at h
      exact ⟨i, z, rfl, hz, h.2.1, h.2.2, h.1, h0, hb⟩

theorem own_sl {w : World} {base : Nat} {e : TypeId} {s n c : Nat} {A : Option Addr} {xs : List Value} (h : w.ownsRow base e s (.slice A n c) n xs) : Sl w s A n xs := by
  refine ⟨h.1, fun hn => ?_⟩
  rcases h.2 with ⟨_, h0⟩ | ⟨g, cap, cur, hv, _, hg, _, _, _, _⟩
  · omega
  · simp only [Value.slice.injEq] at hv
    obtain ⟨rfl, _, rfl⟩ := hv
    refine ⟨g, 0, rfl, (Array.getElem?_eq_some_iff.1 hg).1, fun j u hu => ?_⟩
    have := h.cells (g := g) rfl j u hu
    rw [Nat.zero_add]
    have hadd : (⟨g, 0, none⟩ : Addr).add j = ⟨g, j, none⟩ := by unfold Addr.add; split <;> simp_all
    rwa [hadd] at this
theorem own_cap {w : World} {base : Nat} {e : TypeId} {s n c : Nat} {A : Option Addr} {xs : List Value} (h : w.ownsRow base e s (.slice A n c) n xs) : n ≤ c := by
  rcases h.2 with ⟨hv, h0⟩ | ⟨g, cap, cur, hv, _, hg, hn, _, _, _⟩
  · omega
  · simp only [Value.slice.injEq] at hv
    obtain ⟨_, _, rfl⟩ := hv
    exact hn
/-- An owned value is a slice of so many. -/
theorem own_form {w : World} {base : Nat} {e : TypeId} {s n : Nat} {v : Value} {xs : List Value} (h : w.ownsRow base e s v n xs) : ∃ A c, v = .slice A n c := by
  rcases h.2 with ⟨rfl, rfl⟩ | ⟨g, cap, cur, rfl, _⟩
  · exact ⟨none, 0, rfl⟩
  · exact ⟨_, _, rfl⟩
theorem own_nil {w : World} {base : Nat} {e : TypeId} {s : Nat} : w.ownsRow base e s (.slice none 0 0) 0 [] := World.ownsRow_nil _ _ _ _
/-- What is owned stays so while others make memory. -/
theorem own_below {w w' : World} {base : Nat} {e : TypeId} {s n : Nat} {v : Value} {xs : List Value} (h : w.ownsRow base e s v n xs) (hb : Below w.heap.size w w') : w'.ownsRow base e s v n xs :=
  h.kept (row := none) ⟨hb.os, hb.tape, hb.output, hb.size, fun k hk _ => hb.block k hk⟩ (by cases v.ownBlock <;> simp)
theorem own_mono {w : World} {base base' : Nat} {e : TypeId} {s n : Nat} {v : Value} {xs : List Value} (h : w.ownsRow base e s v n xs) (hb : base' ≤ base) : w.ownsRow base' e s v n xs := by
  refine ⟨h.1, ?_⟩
  rcases h.2 with h0 | ⟨g, cap, cur, hv, hbg, rest⟩
  · exact .inl h0
  · exact .inr ⟨g, cap, cur, hv, Nat.le_trans hb hbg, rest⟩
/-- What was owned, in a world that has written that row's own block alone, is told by Below. -/
theorem grown_below {W w w' : World} {A : Option Addr} {n c : Nat} {e : TypeId} {s : Nat} {xs : List Value} (hb : Below W.heap.size W w) (hg : w.grownBy w' (Value.ownBlock (.slice A n c)))
    (hown : w.ownsRow W.heap.size e s (.slice A n c) n xs) : Below W.heap.size W w' :=
  hb.grown hg hb.size fun k hk => (hown.lt k hk).1

/-- A new block of so many elements is owned. -/
theorem own_new {w : World} {t : TypeId} {n g s base : Nat} (vs : List Value) (hg : w.heap.size = g) (h : vs.length = n * s) (hb : base ≤ g) (hn : n ≤ 1000000) :
    (w.alloc (.cells vs.toArray t)).ownsRow base t s (.slice (some ⟨g, 0, none⟩) n n) n vs := by
  subst hg
  have := World.ownsRow_lit (base := base) (e := t) (size := s) w vs.toArray n hb (by simp only [maxLen]; omega) (by simpa using h)
  simpa using this

theorem oneCell_ints (zs : List Int) : ∀ u ∈ ints zs, u.oneCell' = true := by
  intro u hu; simp only [ints, List.mem_map] at hu; obtain ⟨z, _, rfl⟩ := hu; rfl
theorem oneCell_sgc (s : Sg) : ∀ u ∈ sgc s, u.oneCell' = true := by
  intro u hu; simp only [sgc, List.mem_cons, List.not_mem_nil, or_false] at hu; rcases hu with rfl | rfl | rfl | rfl | rfl <;> rfl
theorem oneCell_edc (s : Ed) : ∀ u ∈ edc s, u.oneCell' = true := by
  intro u hu; simp only [edc, List.mem_cons, List.not_mem_nil, or_false] at hu; rcases hu with rfl | rfl | rfl | rfl | rfl | rfl | rfl <;> rfl
theorem oneCell_flat {α : Type} (f : α → List Value) (hf : ∀ a, ∀ u ∈ f a, u.oneCell' = true) (l : List α) : ∀ u ∈ l.flatMap f, u.oneCell' = true := by
  intro u hu; rw [List.mem_flatMap] at hu; obtain ⟨a, _, ha⟩ := hu; exact hf a u ha
theorem oneCell_sgs (l : List Sg) : ∀ u ∈ sgs l, u.oneCell' = true := oneCell_flat sgc oneCell_sgc l
theorem oneCell_eds (l : List Ed) : ∀ u ∈ eds l, u.oneCell' = true := oneCell_flat edc oneCell_edc l
theorem sgs_app (l m : List Sg) : sgs (l ++ m) = sgs l ++ sgs m := by simp [sgs]
theorem eds_app (l m : List Ed) : eds (l ++ m) = eds l ++ eds m := by simp [eds]
theorem sgs_one (s : Sg) : sgs [s] = sgc s := by simp [sgs]
theorem eds_one (s : Ed) : eds [s] = edc s := by simp [eds]

section
variable {P : Program}
theorem run_app (w : World) {t ty e : TypeId} {base size bytes : Nat} (T : SlT P t e size bytes) {A : Option Addr} {n c : Nat} {xs : List Value} (hown : w.ownsRow base e size (.slice A n c) n xs)
    {X : Option Addr} {m cx : Nat} {news : List Value} (hr : Sl w size X m news) (h1 : ∀ u ∈ news, u.oneCell' = true) (hsm : n + m ≤ 1000000) (hbase : base ≤ w.heap.size) :
    ∃ A' c' w', (Builtin.append_ #[t, t] ty #[.slice A n c, .slice X m cx]).run P w = .ok (.slice A' (n + m) c') w' ∧ w'.ownsRow base e size (.slice A' (n + m) c') (n + m) (xs ++ news) ∧
      w.grownBy w' (Value.ownBlock (.slice A n c)) ∧ ((Value.slice A' (n + m) c').ownBlock = (Value.slice A n c).ownBlock ∨ (Value.slice A' (n + m) c').ownBlock = some w.heap.size) := by
  obtain ⟨ht, i, z, hi, hz, hsize, hby, hzs, hsz, hbb⟩ := T
  rcases X with _ | ad
  · have hm : m = 0 := by
      rcases Nat.eq_zero_or_pos m with h0 | h0
      · exact h0
      · obtain ⟨b, off, h, _⟩ := hr.2 h0; cases h
    subst hm
    have hn : news = [] := List.eq_nil_of_length_eq_zero (by simpa using hr.1)
    subst hn
    refine ⟨A, c, w, ?_, by simpa using hown, ⟨rfl, rfl, rfl, Nat.le_refl _, fun _ _ _ => rfl⟩, .inl rfl⟩
    have hnc := own_cap hown
    rcases hown.2 with ⟨hv, h0⟩ | ⟨g, cap, cur, hv, _⟩
    · simp only [Value.slice.injEq] at hv
      obtain ⟨rfl, rfl, rfl⟩ := hv
      simp [Builtin.append_, run_underlying ht, sizeOf, typeInfo, hi, Builtin.lenOf, Builtin.firstCells]
    · simp only [Value.slice.injEq] at hv
      obtain ⟨rfl, _, rfl⟩ := hv
      simp [Builtin.append_, run_underlying ht, sizeOf, typeInfo, hi, Builtin.lenOf, Builtin.firstCells, hnc, storeCells]
  · have hcells : ∀ j u, news[j]? = some u → w.cell? (ad.add j) = some u := by
      intro j u hu
      rcases Nat.eq_zero_or_pos m with h0 | h0
      · subst h0
        have hn : news = [] := List.eq_nil_of_length_eq_zero (by simpa using hr.1)
        subst hn
        simp at hu
      · obtain ⟨b, off, h, _, hc⟩ := hr.2 h0
        injection h with h
        subst h
        have hadd : (⟨b, off, none⟩ : Addr).add j = ⟨b, off + j, none⟩ := by unfold Addr.add; split <;> simp_all
        rw [hadd]
        exact hc j u hu
    have hb2 : (n + m) * bytes ≤ 1000000 * 1000 := Nat.mul_le_mul hsm hbb
    obtain ⟨v', w', hrun, h2, h3, _, h5⟩ := run_append_own_at (P := P) w base t ty e i z size bytes ht hi hz hsize hby hzs hsz (.slice A n c) n xs hown ad m cx news hr.1 hcells h1 (by simp only [maxLen]; omega) (by omega) hbase
    obtain ⟨A', c', rfl⟩ := own_form h2
    exact ⟨A', c', w', hrun, h2, h3, h5⟩

theorem wp_app {o : Oper} {a : Act} {w : World} {K : Act → World → Prop} {Q : Exit → Act → World → Prop} (s x : Operand) (t : TypeId)
    (ho : o.op = .call { callee := .builtin .append, args := #[s, x], argTypes := #[t, t] }) (base : Nat) {e : TypeId} {size bytes : Nat} (T : SlT P t e size bytes)
    {A : Option Addr} {n c : Nat} {xs : List Value} (hs : a.eval s = .slice A n c) (hown : w.ownsRow base e size (.slice A n c) n xs)
    {X : Option Addr} {m cx : Nat} (news : List Value) (hx : a.eval x = .slice X m cx) (hr : Sl w size X m news) (h1 : ∀ u ∈ news, u.oneCell' = true) (hsm : n + m ≤ 1000000) (hbase : base ≤ w.heap.size)
    (h : ∀ A' c' w', w'.ownsRow base e size (.slice A' (n + m) c') (n + m) (xs ++ news) → w.grownBy w' (Value.ownBlock (.slice A n c)) →
      ((Value.slice A' (n + m) c').ownBlock = (Value.slice A n c).ownBlock ∨ (Value.slice A' (n + m) c').ownBlock = some w.heap.size) → K (a.put o.dst (.slice A' (n + m) c')) w') : o.wp P a w K Q := by
  obtain ⟨A', c', w', hrun, h2, h3, h4⟩ := run_app (P := P) (ty := o.type) w T hown (cx := cx) hr h1 hsm hbase
  unfold Oper.wp execOp
  simp only [ho, resolve, invoke, builtin, Sem.run_bind, Sem.run_pure, Result.andThen_ok, List.map_toArray, List.map_cons, List.map_nil, hs, hx, hrun]
  exact h A' c' w' h2 h3 h4

/-- At the operation, in a walk. -/
theorem wpList_app {ops : Array Oper} {rest : List Oper} {o : Oper} {a : Act} {w : World} {Q : Exit → Act → World → Prop} (hgd : o.guard = none) (s x : Operand) (t : TypeId)
    (ho : o.op = .call { callee := .builtin .append, args := #[s, x], argTypes := #[t, t] }) (base : Nat) {e : TypeId} {size bytes : Nat} (T : SlT P t e size bytes)
    {A : Option Addr} {n c : Nat} {xs : List Value} (hs : a.eval s = .slice A n c) (hown : w.ownsRow base e size (.slice A n c) n xs)
    {X : Option Addr} {m cx : Nat} (news : List Value) (hx : a.eval x = .slice X m cx) (hr : Sl w size X m news) (h1 : ∀ u ∈ news, u.oneCell' = true) (hsm : n + m ≤ 1000000) (hbase : base ≤ w.heap.size)
    (h : ∀ A' c' w', w'.ownsRow base e size (.slice A' (n + m) c') (n + m) (xs ++ news) → w.grownBy w' (Value.ownBlock (.slice A n c)) →
      ((Value.slice A' (n + m) c').ownBlock = (Value.slice A n c).ownBlock ∨ (Value.slice A' (n + m) c').ownBlock = some w.heap.size) → wpList P ops Q rest (a.put o.dst (.slice A' (n + m) c')) w') :
    wpList P ops Q (o :: rest) a w :=
  wpList_plain hgd fun _ hK => wp_app s x t ho base T hs hown news hx hr h1 hsm hbase fun A' c' w' h2 h3 h4 => hK _ _ (h A' c' w' h2 h3 h4)

/-- At a step of a region that draws its order. -/
theorem step_app {ops : Array Oper} {o : Oper} {a : Act} {w : World} {K : Act → World → Prop} {Q : Exit → Act → World → Prop} {E : Prop} (hgd : o.guard = none) (s x : Operand) (t : TypeId)
    (ho : o.op = .call { callee := .builtin .append, args := #[s, x], argTypes := #[t, t] }) (base : Nat) {e : TypeId} {size bytes : Nat} (T : SlT P t e size bytes)
    {A : Option Addr} {n c : Nat} {xs : List Value} (hs : a.eval s = .slice A n c) (hown : w.ownsRow base e size (.slice A n c) n xs)
    {X : Option Addr} {m cx : Nat} (news : List Value) (hx : a.eval x = .slice X m cx) (hr : Sl w size X m news) (h1 : ∀ u ∈ news, u.oneCell' = true) (hsm : n + m ≤ 1000000) (hbase : base ≤ w.heap.size)
    (h : ∀ A' c' w', w'.ownsRow base e size (.slice A' (n + m) c') (n + m) (xs ++ news) → w.grownBy w' (Value.ownBlock (.slice A n c)) →
      ((Value.slice A' (n + m) c').ownBlock = (Value.slice A n c).ownBlock ∨ (Value.slice A' (n + m) c').ownBlock = some w.heap.size) → K (a.put o.dst (.slice A' (n + m) c')) w') :
    if Region.wanted o (yielded ops a.tmps) = true then Oper.wp P o a w K Q else E := by
  have hw : Region.wanted o (yielded ops a.tmps) = true := by simp [Region.wanted, hgd]
  rw [if_pos hw]
  exact wp_app s x t ho base T hs hown news hx hr h1 hsm hbase h
end

end Go.Proofs.Ytbpeoejjjllieaa
