/- Contours in memory: a row of contours, each with a row of edges of its own. -/
import Derived.Test.YtbbffeddlgfeiaaMid
import Derived.Test.YtbbffeddlgfeiaaCtP
namespace Go.Proofs.Ytbbffeddlgfeiaa
open Go.RowKit

/-- A contour's cells; its edges are a slice value. -/
def cvc (p : Ct × Value) : List Value := [.int .i64 p.1.x, .int .i64 p.1.y, p.2, .bool p.1.shut]
def cvs (ps : List (Ct × Value)) : List Value := ps.flatMap cvc
theorem cvs_len (ps : List (Ct × Value)) : (cvs ps).length = ps.length * 4 := len_flat cvc 4 (fun _ => rfl) ps
theorem cvs_snoc (a : List (Ct × Value)) (p : Ct × Value) : cvs (a ++ [p]) = cvs a ++ cvc p := by simp [cvs]

/-- Each contour owns its edges' row; no two rows are one. -/
def Cvs (w : World) (B : Nat) (E : TypeId) (ps : List (Ct × Value)) : Prop :=
  (∀ p ∈ ps, w.ownsRow B E 7 p.2 p.1.es.length (eds p.1.es)) ∧ ps.Pairwise (fun p q => ∀ k, p.2.ownBlock = some k → q.2.ownBlock ≠ some k)

section
variable {w w' : World} {B : Nat} {E T : TypeId} {ps a : List (Ct × Value)}
theorem Cvs.nil : Cvs w B E [] := ⟨fun p hp => by simp at hp, List.Pairwise.nil⟩
theorem Cvs.below (h : Cvs w B E ps) (hb : Below w.heap.size w w') : Cvs w' B E ps := ⟨fun p hp => own_below (h.1 p hp) hb, h.2⟩
theorem Cvs.mono {B' : Nat} (h : Cvs w B E ps) (hb : B' ≤ B) : Cvs w B' E ps := ⟨fun p hp => own_mono (h.1 p hp) hb, h.2⟩
/-- Two owned rows of different types are two blocks. -/
theorem own_ne {s s' n n' : Nat} {v v' : Value} {xs xs' : List Value} {b b' : Nat} (h : w.ownsRow b E s v n xs) (h' : w.ownsRow b' T s' v' n' xs') (hne : E ≠ T) : v.ownBlock = none ∨ v.ownBlock ≠ v'.ownBlock := by
  rcases h.2 with ⟨rfl, _⟩ | ⟨g, cap, cur, rfl, _, hg, _⟩
  · exact .inl rfl
  · refine .inr fun e => ?_
    rcases h'.2 with ⟨rfl, _⟩ | ⟨g', cap', cur', rfl, _, hg', _⟩
    · simp [Value.ownBlock] at e
    · simp [Value.ownBlock] at e
      subst e
      rw [hg] at hg'
      injection hg' with hg'
      injection hg' with _ ht
      exact hne ht
/-- The contours' own row is written: their edges are kept. -/
theorem Cvs.out (h : Cvs w B E ps) {s n : Nat} {v : Value} {xs : List Value} {b : Nat} (ho : w.ownsRow b T s v n xs) (hne : E ≠ T) (hg : w.grownBy w' v.ownBlock) : Cvs w' B E ps :=
  ⟨fun p hp => (h.1 p hp).kept hg (own_ne (h.1 p hp) ho hne), h.2⟩
/-- A new contour without edges. -/
theorem Cvs.push (h : Cvs w B E ps) (x y : Int) : Cvs w B E (ps ++ [(⟨x, y, [], false⟩, .slice none 0 0)]) := by
  refine ⟨fun p hp => ?_, ?_⟩
  · rw [List.mem_append, List.mem_singleton] at hp
    rcases hp with hp | rfl
    · exact h.1 p hp
    · exact own_nil
  · rw [List.pairwise_append]
    exact ⟨h.2, List.pairwise_singleton _ _, fun p _ q hq k _ => by rw [List.mem_singleton] at hq; subst hq; simp [Value.ownBlock]⟩
/-- The last one's head is turned, its edges are not. -/
theorem Cvs.head {c c' : Ct} {v : Value} (h : Cvs w B E (a ++ [(c, v)])) (he : c'.es = c.es) : Cvs w B E (a ++ [(c', v)]) := by
  refine ⟨fun p hp => ?_, ?_⟩
  · rw [List.mem_append, List.mem_singleton] at hp
    rcases hp with hp | rfl
    · exact h.1 p (by simp [hp])
    · have := h.1 (c, v) (by simp); simp only at this ⊢; rw [he]; exact this
  · have h2 := h.2
    rw [List.pairwise_append] at h2 ⊢
    exact ⟨h2.1, List.pairwise_singleton _ _, fun p hp q hq => by rw [List.mem_singleton] at hq; subst hq; exact h2.2.2 p hp (c, v) (by simp)⟩
/-- The last one's edges grow. -/
theorem Cvs.grow {c c' : Ct} {v v' : Value} (h : Cvs w B E (a ++ [(c, v)])) (hg : w.grownBy w' v.ownBlock) (hat : v'.ownBlock = v.ownBlock ∨ v'.ownBlock = some w.heap.size)
    (hown : w'.ownsRow B E 7 v' c'.es.length (eds c'.es)) : Cvs w' B E (a ++ [(c', v')]) := by
  have h2 := h.2
  rw [List.pairwise_append] at h2
  refine ⟨fun p hp => ?_, ?_⟩
  · rw [List.mem_append, List.mem_singleton] at hp
    rcases hp with hp | rfl
    · have hd := h2.2.2 p hp (c, v) (by simp)
      refine (h.1 p (by simp [hp])).kept hg ?_
      cases hb : p.2.ownBlock with
      | none => exact .inl rfl
      | some k => exact .inr (fun e => hd k hb e.symm)
    · exact hown
  · rw [List.pairwise_append]
    refine ⟨h2.1, List.pairwise_singleton _ _, fun p hp q hq k hk => ?_⟩
    rw [List.mem_singleton] at hq; subst hq
    rcases hat with e | e
    · rw [e]; exact h2.2.2 p hp (c, v) (by simp) k hk
    · rw [e]
      have := ((h.1 p (by simp [hp])).lt k hk).2
      intro e'; injection e' with e'; omega
/-- The k-th contour's cells. -/
theorem Sl.ct {A : Option Addr} {n : Nat} (h : Sl w 4 A n (cvs ps)) (k : Nat) (hk : k < n) (hl : k < ps.length) :
    ∃ b off : Nat, A = some ⟨b, off, none⟩ ∧ b < w.heap.size ∧ w.cell? ⟨b, off + k * 4, none⟩ = some (.int .i64 ps[k].1.x) ∧ w.cell? ⟨b, off + k * 4 + 1, none⟩ = some (.int .i64 ps[k].1.y) ∧
      w.cell? ⟨b, off + k * 4 + 2, none⟩ = some ps[k].2 ∧ w.cell? ⟨b, off + k * 4 + 3, none⟩ = some (.bool ps[k].1.shut) := by
  obtain ⟨b, off, e, hb, hc⟩ := h.2 (by omega)
  have g : ∀ j u, j < 4 → (cvc ps[k])[j]? = some u → w.cell? ⟨b, off + k * 4 + j, none⟩ = some u := fun j u hj hu => by
    rw [Nat.add_assoc]; exact hc _ u (by rw [← hu]; exact get_flat cvc 4 (fun _ => rfl) ps k j hl hj)
  exact ⟨b, off, e, hb, g 0 _ (by omega) rfl, g 1 _ (by omega) rfl, g 2 _ (by omega) rfl, g 3 _ (by omega) rfl⟩
theorem Sl.ctlen {A : Option Addr} {n : Nat} (h : Sl w 4 A n (cvs ps)) : ps.length = n := by
  have := h.1; rw [cvs_len] at this; omega
/-- A store into the last contour. -/
theorem set_last {c c' : Ct} {v v' : Value} {j : Nat} {u : Value} (hj : j < 4) (hs : (cvc (c, v)).set j u = cvc (c', v')) : (cvs (a ++ [(c, v)])).set (a.length * 4 + j) u = cvs (a ++ [(c', v')]) := by
  rw [cvs_snoc, cvs_snoc, List.set_append_right _ _ (by rw [cvs_len]; omega), cvs_len]
  have : a.length * 4 + j - a.length * 4 = j := by omega
  rw [this, hs]
theorem oneCell_cvc (c : Ct) : ∀ u ∈ cvc (c, .slice none 0 0), u.oneCell' = true := by
  intro u hu; simp only [cvc, List.mem_cons, List.not_mem_nil, or_false] at hu; rcases hu with rfl | rfl | rfl | rfl <;> rfl
theorem own_addr {base : Nat} {e : TypeId} {s n c : Nat} {A : Option Addr} {xs : List Value} (h : w.ownsRow base e s (.slice A n c) n xs) (hn : 0 < n) : ∃ g, A = some ⟨g, 0, none⟩ ∧ base ≤ g ∧ g < w.heap.size := by
  rcases h.2 with ⟨_, h0⟩ | ⟨g, cap, cur, hv, hb, hg, _⟩
  · omega
  · simp only [Value.slice.injEq] at hv
    exact ⟨g, hv.1, hb, (Array.getElem?_eq_some_iff.1 hg).1⟩
/-- A slice reads as a list of contours. -/
def CtSl (w : World) (A : Option Addr) (n : Nat) (cs : List Ct) : Prop :=
  ∃ ps : List (Ct × Value), ps.map Prod.fst = cs ∧ Sl w 4 A n (cvs ps) ∧ ∀ p ∈ ps, ∃ Ae ce, p.2 = .slice Ae p.1.es.length ce ∧ Sl w 7 Ae p.1.es.length (eds p.1.es)
theorem CtSl.below {A : Option Addr} {n : Nat} {cs : List Ct} (h : CtSl w A n cs) (hb : Below w.heap.size w w') : CtSl w' A n cs := by
  obtain ⟨ps, h1, h2, h3⟩ := h
  exact ⟨ps, h1, h2.below hb, fun p hp => by obtain ⟨Ae, ce, e, hs⟩ := h3 p hp; exact ⟨Ae, ce, e, hs.below hb⟩⟩
theorem CtSl.drewN {A : Option Addr} {n : Nat} {cs : List Ct} (h : CtSl w A n cs) (q : Nat) : CtSl (w.drewN q) A n cs := h.below (bdrewN (Below.refl _ _) q)
theorem CtSl.of {b b' : Nat} {A : Option Addr} {c : Nat} (h : w.ownsRow b T 4 (.slice A ps.length c) ps.length (cvs ps)) (hc : Cvs w b' E ps) : CtSl w A ps.length (ps.map Prod.fst) :=
  ⟨ps, rfl, own_sl h, fun p hp => by
    have := hc.1 p hp
    obtain ⟨Ae, ce, e⟩ := own_form this
    rw [e] at this
    exact ⟨Ae, ce, e, own_sl this⟩⟩
theorem CtSl.len {A : Option Addr} {n : Nat} {cs : List Ct} (h : CtSl w A n cs) : cs.length = n := by
  obtain ⟨ps, rfl, h2, _⟩ := h
  rw [List.length_map]; exact h2.ctlen
theorem CtSl.get {A : Option Addr} {n : Nat} {cs : List Ct} (h : CtSl w A n cs) (k : Nat) (hk : k < n) (hl : k < cs.length) :
    ∃ (b off : Nat) (Ae : Option Addr) (ce : Nat), A = some ⟨b, off, none⟩ ∧ b < w.heap.size ∧ w.cell? ⟨b, off + k * 4, none⟩ = some (.int .i64 cs[k].x) ∧ w.cell? ⟨b, off + k * 4 + 1, none⟩ = some (.int .i64 cs[k].y) ∧
      w.cell? ⟨b, off + k * 4 + 2, none⟩ = some (.slice Ae cs[k].es.length ce) ∧ w.cell? ⟨b, off + k * 4 + 3, none⟩ = some (.bool cs[k].shut) ∧ Sl w 7 Ae cs[k].es.length (eds cs[k].es) := by
  obtain ⟨ps, rfl, h2, h3⟩ := h
  have hl' : k < ps.length := by simpa using hl
  obtain ⟨b, off, e, hb, c0, c1, c2, c3⟩ := h2.ct k hk hl'
  obtain ⟨Ae, ce, ev, hs⟩ := h3 ps[k] (List.getElem_mem hl')
  rw [ev] at c2
  have hm : (ps.map Prod.fst)[k] = ps[k].1 := by simp
  rw [hm]
  exact ⟨b, off, Ae, ce, e, hb, c0, c1, c2, c3, hs⟩
theorem map_snoc {c : Ct} {v : Value} : (a ++ [(c, v)]).map Prod.fst = a.map Prod.fst ++ [c] := by simp
theorem map_modLast (f : Ct → Ct) (a : List Ct) (c : Ct) : modLast f (a ++ [c]) = a ++ [f c] := modLast_snoc f a c
end

end Go.Proofs.Ytbbffeddlgfeiaa
