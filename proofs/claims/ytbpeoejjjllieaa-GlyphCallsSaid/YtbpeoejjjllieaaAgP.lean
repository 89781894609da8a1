/- The plain law of FlatAgain: a flat path is valid, flat, and its contours are the path's. -/
import Derived.Test.YtbpeoejjjllieaaFlatLP
import Derived.Test.YtbpeoejjjllieaaCtP
import Derived.Test.YtbpeoejjjllieaaNearP
namespace Go.Proofs.Ytbpeoejjjllieaa

theorem plc1_last (a c b n : Int) (hn : 1 ≤ n) : plc1 a c b n n = b := by
  have hnn : 0 < n * n := Int.mul_pos (by omega) (by omega)
  unfold plc1
  have : a * (n - n) * (n - n) + 2 * c * n * (n - n) + b * n * n = b * (n * n) := by grind
  rw [this]; exact rnd_exact b _ hnn
/-- The last line ends where the bow ends. -/
theorem lns_last {e : Ed} (h : edOK e = true) (hb : e.bent = true) : ∃ a z, lns e = a ++ [z] ∧ z.x1 = e.x1 ∧ z.y1 = e.y1 := by
  have hn := cntI_bd h hb
  obtain ⟨k, hk⟩ : ∃ k, (cntI e).toNat = k + 1 := ⟨(cntI e).toNat - 1, by omega⟩
  have hk' : ((k : Int) + 1) = cntI e := by omega
  refine ⟨lnsTo e (cntI e) k, _, by rw [lns_yes h hb, hk, lnsTo_snoc], ?_, ?_⟩
  · simp only; rw [plcX_at, hk']; exact plc1_last _ _ _ _ hn.1
  · simp only; rw [plcY_at, hk']; exact plc1_last _ _ _ _ hn.1

theorem modLast_comp {α : Type} (f g : α → α) : ∀ l, modLast f (modLast g l) = modLast (fun c => f (g c)) l
  | [] => rfl
  | [c] => rfl
  | c :: d :: l => by
    have ih := modLast_comp f g (d :: l)
    cases l with
    | nil => rfl
    | cons e l =>
      simp only [modLast] at ih ⊢
      rw [ih]
/-- Where the last edge ends. -/
def endOf (es : List Ed) : Option (Int × Int) := es.getLast?.map fun e => (e.x1, e.y1)
theorem endOf_app (a b : List Ed) (h : b ≠ []) : endOf (a ++ b) = endOf b := by
  unfold endOf; rw [List.getLast?_append]
  cases hb : b.getLast? with
  | none => rw [List.getLast?_eq_none_iff] at hb; exact absurd hb h
  | some z => rfl
/-- Lines alone: they lengthen the last contour. -/
theorem foldLines : ∀ (ls : List Sg) (_ : ∀ s ∈ ls, s.kind = 2) (st : List Ct × Int × Int), ∃ es : List Ed, es.length = ls.length ∧ (∀ e ∈ es, e.bent = false) ∧
    (ls.foldl ctStep st).1 = modLast (fun c => { c with es := c.es ++ es }) st.1 ∧ endOf es = ls.getLast?.map (fun s => (s.x, s.y)) ∧ (ls.foldl ctStep st).2 = (ls.getLast?.map (fun s => (s.x, s.y))).getD st.2
  | [], _, st => ⟨[], rfl, fun e he => by simp at he, by
      simp only [List.foldl_nil, List.append_nil]
      have : ∀ l : List Ct, modLast (fun c => (⟨c.x, c.y, c.es, c.shut⟩ : Ct)) l = l := fun l => by
        by_cases hl : l = []
        · subst hl; rfl
        · obtain ⟨a, c, rfl⟩ := snoc_of_ne l hl; rw [modLast_snoc]
      exact (this st.1).symm, rfl, rfl⟩
  | s :: ls, h, st => by
    have hs : s.kind = 2 := h s (by simp)
    obtain ⟨es, h1, h2, h3, h4, h5⟩ := foldLines ls (fun t ht => h t (by simp [ht])) (ctStep st s)
    have hst : ctStep st s = (modLast (fun c => { c with es := c.es ++ [⟨st.2.1, st.2.2, false, s.cx, s.cy, s.x, s.y⟩] }) st.1, s.x, s.y) := by simp [ctStep, hs]
    refine ⟨⟨st.2.1, st.2.2, false, s.cx, s.cy, s.x, s.y⟩ :: es, by simp [h1], fun e he => ?_, ?_, ?_, ?_⟩
    · rw [List.mem_cons] at he
      rcases he with rfl | he
      · rfl
      · exact h2 e he
    · rw [List.foldl_cons, h3, hst, modLast_comp]; simp
    · cases ls with
      | nil => have : es = [] := List.eq_nil_of_length_eq_zero h1; subst this; rfl
      | cons t ls =>
        cases es with
        | nil => simp at h1
        | cons e es => rw [List.getLast?_cons_cons, ← h4]; unfold endOf; rw [List.getLast?_cons_cons]
    · rw [List.foldl_cons, h5, hst]
      cases ls with
      | nil => rfl
      | cons t ls =>
        rw [List.getLast?_cons_cons]
        obtain ⟨z, hz⟩ : ∃ z, (t :: ls).getLast? = some z := ⟨_, List.getLast?_eq_some_getLast (by simp)⟩
        rw [hz]; rfl

/-- b is what a becomes when its bows are lines. -/
def CtR (a b : Ct) : Prop := a.x = b.x ∧ a.y = b.y ∧ a.shut = b.shut ∧ a.es.length ≤ b.es.length ∧ (∀ e ∈ b.es, e.bent = false) ∧ (a.es ≠ [] → endOf b.es = endOf a.es)
def CtsR : List Ct → List Ct → Prop
  | [], [] => True
  | a :: l, b :: m => CtR a b ∧ CtsR l m
  | _, _ => False
theorem CtsR.length : ∀ {l m : List Ct}, CtsR l m → l.length = m.length
  | [], [], _ => rfl
  | _ :: _, _ :: _, h => by simp [CtsR.length h.2]
  | [], _ :: _, h => h.elim
  | _ :: _, [], h => h.elim
theorem CtsR.get : ∀ {l m : List Ct} (_ : CtsR l m) (i : Nat) (hl : i < l.length) (hm : i < m.length), CtR l[i] m[i]
  | _ :: _, _ :: _, h, 0, _, _ => h.1
  | _ :: _, _ :: _, h, i + 1, hl, hm => CtsR.get h.2 i (by simpa using hl) (by simpa using hm)
  | [], _, _, _, hl, _ => absurd hl (by simp)
  | _ :: _, [], h, _, _, _ => h.elim
theorem CtsR.snoc {a b : Ct} (hab : CtR a b) : ∀ {l m : List Ct}, CtsR l m → CtsR (l ++ [a]) (m ++ [b])
  | [], [], _ => ⟨hab, trivial⟩
  | _ :: _, _ :: _, h => ⟨h.1, CtsR.snoc hab h.2⟩
  | [], _ :: _, h => h.elim
  | _ :: _, [], h => h.elim
theorem CtsR.modLast {f g : Ct → Ct} (hfg : ∀ a b, CtR a b → CtR (f a) (g b)) : ∀ {l m : List Ct}, CtsR l m → CtsR (modLast f l) (modLast g m)
  | [], [], _ => trivial
  | [_], [_], h => ⟨hfg _ _ h.1, trivial⟩
  | _ :: _ :: _, _ :: _ :: _, h => ⟨h.1, CtsR.modLast hfg h.2⟩
  | [], _ :: _, h => h.elim
  | _ :: _, [], h => h.elim
  | [_], _ :: _ :: _, h => h.2.elim
  | _ :: _ :: _, [_], h => h.2.elim

theorem co_iff {v : Int} : co v = true ↔ -8191 ≤ v ∧ v ≤ 8191 := by simp [co]
theorem pieceB_co {s : Sg} (h : pieceB s = true) : co s.x = true ∧ co s.y = true ∧ co s.cx = true ∧ co s.cy = true := by
  have h0 : co 0 = true := by decide
  simp only [pieceB, Bool.or_eq_true, Bool.and_eq_true, beq_iff_eq] at h
  rcases h with (⟨_, ⟨⟨⟨h1, h2⟩, h3⟩, h4⟩⟩ | ⟨_, ⟨⟨h1, h2⟩, h3, h4⟩⟩) | ⟨_, ⟨⟨⟨h1, h2⟩, h3⟩, h4⟩⟩
  · rw [h3, h4]; exact ⟨h1, h2, h0, h0⟩
  · exact ⟨h1, h2, h3, h4⟩
  · rw [h1, h2, h3, h4]; exact ⟨h0, h0, h0, h0⟩
theorem bow_ok {x y : Int} {s : Sg} (hx : co x = true) (hy : co y = true) (h : pieceB s = true) : edOK ⟨x, y, true, s.cx, s.cy, s.x, s.y⟩ = true := by
  obtain ⟨h1, h2, h3, h4⟩ := pieceB_co h
  rw [co_iff] at *
  exact edOK_mk hx hy h3 h4 h1 h2 (.inl rfl)
/-- The lines of a bow, as pieces. -/
theorem bow_lines {x y : Int} {s : Sg} (hx : co x = true) (hy : co y = true) (h : pieceB s = true) (hk : s.kind = 3) :
    (∀ t ∈ flatSeg x y s, t.kind = 2 ∧ pieceB t = true) ∧ flatSeg x y s ≠ [] ∧ (flatSeg x y s).getLast?.map (fun t => (t.x, t.y)) = some (s.x, s.y) := by
  have hok := bow_ok hx hy h
  obtain ⟨h1, h2, h3, h4⟩ := pieceB_co h
  rw [co_iff] at h1 h2 h3 h4 hx hy
  rw [flatSeg_bow hk]
  refine ⟨fun t ht => ?_, ?_, ?_⟩
  · rw [List.mem_map] at ht
    obtain ⟨e, he, rfl⟩ := ht
    obtain ⟨i, hi, rfl⟩ := List.getElem_of_mem he
    obtain ⟨_, _, r1, r2⟩ := lns_range (a := -8191) (b := 8191) hok hx h3 h1 hy h4 h2 i hi
    refine ⟨rfl, ?_⟩
    simp [pieceB, lnSg, co_iff.2 r1, co_iff.2 r2]
  · obtain ⟨a, z, hz, _⟩ := lns_last hok rfl
    rw [hz]; simp
  · obtain ⟨a, z, hz, hzx, hzy⟩ := lns_last hok rfl
    rw [hz, List.map_append, List.getLast?_append]
    simp [lnSg, hzx, hzy]

/-- The flat path's contours are the path's, with lines in the place of bows. -/
theorem flat_R : ∀ (l : List Sg) (last x y : Int) (st st' : List Ct × Int × Int), mayFrom last l = true → co x = true → co y = true → CtsR st.1 st'.1 → st.2 = st'.2 →
    CtsR (l.foldl ctStep st).1 ((flatFrom x y l).foldl ctStep st').1 ∧ (l.foldl ctStep st).2 = ((flatFrom x y l).foldl ctStep st').2
  | [], _, _, _, _, _, _, _, _, hR, h2 => ⟨hR, h2⟩
  | s :: l, last, x, y, st, st', hm, hx, hy, hR, h2 => by
    simp only [mayFrom, Bool.and_eq_true] at hm
    obtain ⟨hp, hr⟩ := rightB_iff.1 hm.1
    obtain ⟨c1, c2, _, _⟩ := pieceB_co hp
    rw [flatFrom, List.foldl_cons, List.foldl_append]
    by_cases h3 : s.kind = 3
    · obtain ⟨hl, hne, hlast⟩ := bow_lines hx hy hp h3
      obtain ⟨es, e1, e2, e3, e4, e5⟩ := foldLines (flatSeg x y s) (fun t ht => (hl t ht).1) st'
      have hes : es ≠ [] := fun h => by subst h; exact hne (List.eq_nil_of_length_eq_zero e1.symm)
      refine flat_R l s.kind s.x s.y _ _ hm.2 c1 c2 ?_ ?_
      · rw [e3]
        have : (ctStep st s).1 = modLast (fun c => { c with es := c.es ++ [⟨st.2.1, st.2.2, true, s.cx, s.cy, s.x, s.y⟩] }) st.1 := by simp [ctStep, h3]
        rw [this]
        refine CtsR.modLast (fun a b hab => ?_) hR
        obtain ⟨r1, r2, r3, r4, r5, r6⟩ := hab
        have hlen : 0 < es.length := List.length_pos_iff.2 hes
        refine ⟨r1, r2, r3, by simp only [List.length_append, List.length_singleton]; omega, fun e he => ?_, fun _ => ?_⟩
        · rw [List.mem_append] at he
          rcases he with he | he
          · exact r5 e he
          · exact e2 e he
        · simp only
          rw [endOf_app _ _ hes, endOf_app _ _ (by simp), e4, hlast]; rfl
      · rw [e5, hlast]; simp [ctStep, h3]
    · have hseg : flatSeg x y s = [s] := by simp [flatSeg, h3]
      rw [hseg]
      refine flat_R l s.kind s.x s.y _ _ hm.2 c1 c2 ?_ ?_
      · simp only [List.foldl_cons, List.foldl_nil]
        unfold ctStep
        split
        · exact CtsR.snoc ⟨rfl, rfl, rfl, by simp, fun e he => by simp at he, fun h => absurd rfl h⟩ hR
        · split
          · show CtsR (modLast (fun c => { c with shut := true }) st.1) (modLast (fun c => { c with shut := true }) st'.1)
            refine CtsR.modLast (f := fun c => { c with shut := true }) (g := fun c => { c with shut := true }) (fun a b hab => ?_) hR
            obtain ⟨r1, r2, r3, r4, r5, r6⟩ := hab
            exact ⟨r1, r2, rfl, r4, r5, r6⟩
          · rw [h2]
            show CtsR (modLast (fun c => { c with es := c.es ++ [⟨st'.2.1, st'.2.2, s.kind == 3, s.cx, s.cy, s.x, s.y⟩] }) st.1) (modLast (fun c => { c with es := c.es ++ [⟨st'.2.1, st'.2.2, s.kind == 3, s.cx, s.cy, s.x, s.y⟩] }) st'.1)
            refine CtsR.modLast (f := fun c => { c with es := c.es ++ [⟨st'.2.1, st'.2.2, s.kind == 3, s.cx, s.cy, s.x, s.y⟩] }) (g := fun c => { c with es := c.es ++ [⟨st'.2.1, st'.2.2, s.kind == 3, s.cx, s.cy, s.x, s.y⟩] }) (fun a b hab => ?_) hR
            obtain ⟨r1, r2, r3, r4, r5, r6⟩ := hab
            refine ⟨r1, r2, r3, by simp only [List.length_append, List.length_singleton]; omega, fun e he => ?_, fun _ => ?_⟩
            · rw [List.mem_append, List.mem_singleton] at he
              rcases he with he | rfl
              · exact r5 e he
              · simp [h3]
            · simp only
              rw [endOf_app _ _ (by simp), endOf_app _ _ (by simp)]
      · simp only [List.foldl_cons, List.foldl_nil]
        unfold ctStep
        split
        · rfl
        · split
          · exact h2
          · rfl

theorem mayFrom_lines : ∀ (ls rest : List Sg) (a : Int), (∀ s ∈ ls, s.kind = 2 ∧ pieceB s = true) → ls ≠ [] → a ≠ 0 → a ≠ 4 → mayFrom 2 rest = true → mayFrom a (ls ++ rest) = true
  | [], _, _, _, h, _, _, _ => absurd rfl h
  | s :: ls, rest, a, h, _, h0, h4, hr => by
    obtain ⟨hk, hp⟩ := h s (by simp)
    have h1 : rightB s a = true := rightB_iff.2 ⟨hp, .inr ⟨by omega, h0, h4⟩⟩
    rw [List.cons_append, mayFrom, h1, hk, Bool.true_and]
    by_cases hl : ls = []
    · subst hl; exact hr
    · exact mayFrom_lines ls rest 2 (fun t ht => h t (by simp [ht])) hl (by decide) (by decide) hr
theorem mayFrom_flat : ∀ (l : List Sg) (last last' x y : Int), mayFrom last l = true → (last = last' ∨ (last = 3 ∧ last' = 2)) → co x = true → co y = true → mayFrom last' (flatFrom x y l) = true
  | [], _, _, _, _, _, _, _, _ => rfl
  | s :: l, last, last', x, y, hm, hll, hx, hy => by
    simp only [mayFrom, Bool.and_eq_true] at hm
    obtain ⟨hp, hr⟩ := rightB_iff.1 hm.1
    obtain ⟨c1, c2, _, _⟩ := pieceB_co hp
    rw [flatFrom]
    by_cases h3 : s.kind = 3
    · obtain ⟨hl, hne, _⟩ := bow_lines hx hy hp h3
      have : last' ≠ 0 ∧ last' ≠ 4 := by omega
      exact mayFrom_lines _ _ _ hl hne this.1 this.2 (mayFrom_flat l s.kind 2 s.x s.y hm.2 (.inr ⟨h3, rfl⟩) c1 c2)
    · have hseg : flatSeg x y s = [s] := by simp [flatSeg, h3]
      rw [hseg, List.cons_append, List.nil_append, mayFrom, Bool.and_eq_true]
      exact ⟨rightB_iff.2 ⟨hp, by omega⟩, mayFrom_flat l s.kind s.kind s.x s.y hm.2 (.inl rfl) c1 c2⟩
theorem flatFrom_flat : ∀ (l : List Sg) (x y : Int), (∀ s ∈ l, s.kind ≠ 3) → flatFrom x y l = l
  | [], _, _, _ => rfl
  | s :: l, x, y, h => by
    have hs : flatSeg x y s = [s] := by simp [flatSeg, h s (by simp)]
    rw [flatFrom, hs, flatFrom_flat l _ _ (fun t ht => h t (by simp [ht]))]; rfl
theorem flat_nobow : ∀ (l : List Sg) (x y : Int), ∀ t ∈ flatFrom x y l, t.kind ≠ 3
  | [], _, _, t, h => by simp [flatFrom] at h
  | s :: l, x, y, t, h => by
    rw [flatFrom, List.mem_append] at h
    rcases h with h | h
    · unfold flatSeg at h
      split at h
      · rw [List.mem_map] at h
        obtain ⟨e, _, rfl⟩ := h; simp [lnSg]
      · rename_i h3
        rw [List.mem_singleton] at h; subst h; exact h3
    · exact flat_nobow l _ _ t h

/-- A flat path is valid. -/
theorem flatL_may {l : List Sg} (h : mayB l = true) (hl : (flatL l).length ≤ 300) : mayB (flatL l) = true := by
  have := mayFrom_flat l 0 0 0 0 (mayB_from h).1 (.inl rfl) (by decide) (by decide)
  simp only [mayB, Bool.and_eq_true, decide_eq_true_eq]
  exact ⟨hl, this⟩
/-- A flat path stays as it is. -/
theorem flatL_again (l : List Sg) : flatL (flatL l) = flatL l := flatFrom_flat _ _ _ (flat_nobow l 0 0)
theorem flatE_again {l : List Sg} (h : mayB l = true) (hl : (flatL l).length ≤ 300) : flatE (flatL l) = (flatL l, 0) := by
  have h1 := flatL_may h hl
  rw [flatE_all h1 (by rw [flatL_again]; exact hl), flatL_again]
/-- A path without bows is flat. -/
theorem flatE_nobow {l : List Sg} (h : mayB l = true) (hb : ∀ s ∈ l, s.kind ≠ 3) : flatE l = (l, 0) := by
  have h1 : flatL l = l := flatFrom_flat l 0 0 hb
  rw [flatE_all h (by rw [h1]; exact (mayB_from h).2), h1]
/-- Its contours are the path's. -/
theorem ctsL_flat {l : List Sg} (h : mayB l = true) (hl : (flatL l).length ≤ 300) : CtsR (ctsL l) (ctsL (flatL l)) := by
  have h1 := flatL_may h hl
  simp only [ctsL, h, h1]
  exact (flat_R l 0 0 0 ([], 0, 0) ([], 0, 0) (mayB_from h).1 (by decide) (by decide) trivial rfl).1

end Go.Proofs.Ytbpeoejjjllieaa
