/- The plain law of DashNone. -/
import Derived.Test.YtbbffeddlgfeiaaDash6P
import Derived.Test.YtbbffeddlgfeiaaDashSqP
import Derived.Test.YtbbffeddlgfeiaaMadeP
namespace Go.Proofs.Ytbbffeddlgfeiaa

def lnE (e : Ed) : Sg := ⟨2, e.x1, e.y1, 0, 0⟩
/-- A contour as an open one, its pieces alone. -/
def noneC (c : Ct) : List Sg := if (piecesC c).length = 0 then [] else ⟨1, c.x, c.y, 0, 0⟩ :: (piecesC c).map lnE
def noneL (l : List Sg) : List Sg := (ctsL l).flatMap noneC

theorem filter_start : ∀ (es : List Ed) (x y : Int), chain x y es → (es.filter moved = [] ∧ endX x es = x ∧ endY y es = y) ∨ (∃ e r, es.filter moved = e :: r ∧ e.x0 = x ∧ e.y0 = y)
  | [], x, y, _ => .inl ⟨rfl, rfl, rfl⟩
  | e :: es, x, y, h => by
    obtain ⟨hx, hy, hc⟩ : e.x0 = x ∧ e.y0 = y ∧ chain e.x1 e.y1 es := h
    cases hm : moved e
    · simp only [moved, Bool.or_eq_false_iff, Bool.not_eq_false', beq_iff_eq] at hm
      have h1 : e.x1 = x := by omega
      have h2 : e.y1 = y := by omega
      rw [h1, h2] at hc
      have hm' : moved e = false := by simp [moved]; omega
      rw [endX_cons, endY_cons, h1, h2, List.filter_cons, hm']
      simpa using filter_start es x y hc
    · right
      exact ⟨e, es.filter moved, by simp [hm], hx, hy⟩
theorem pieces_start {c : Ct} (h : GoodC c) : piecesC c = [] ∨ ∃ e r, piecesC c = e :: r ∧ e.x0 = c.x ∧ e.y0 = c.y := by
  unfold piecesC
  rcases filter_start c.es c.x c.y h.1 with ⟨h1, h2, h3⟩ | ⟨e, r, h1, h2, h3⟩
  · left
    have hb : moved (backE c) = false := by simp [moved, backE, h2, h3]
    rw [h1, hb]; simp
  · right
    exact ⟨e, r ++ _, by rw [h1, List.cons_append], h2, h3⟩
theorem innF_all : ∀ (l : List Ed) (e : Ed) (t a : Int), (∀ d ∈ e :: l, 1 ≤ lenE d) → a ≤ t → innF t (e :: l) a (t + sumL (e :: l)) ++ [lnE ((e :: l).getLast (by simp))] = (e :: l).map lnE
  | [], e, t, a, h, ha => by
    have : innE (t + lenE e) e a (t + sumL [e]) = [] := by unfold innE; rw [if_neg (by simp only [sumL]; omega)]
    simp [innF, this]
  | d :: l, e, t, a, h, ha => by
    have he := h e (by simp)
    have hd := h d (by simp)
    have hn := sumL_nonneg l
    have ih := innF_all l d (t + lenE e) a (fun x hx => h x (by simp [hx])) (by omega)
    have hs : t + sumL (e :: d :: l) = t + lenE e + sumL (d :: l) := by simp only [sumL]; omega
    rw [hs]
    have h1 : innE (t + lenE e) e a (t + lenE e + sumL (d :: l)) = [lnE e] := by
      unfold innE; rw [if_pos (by simp only [sumL]; omega)]; rfl
    rw [innF, h1, List.append_assoc, List.getLast_cons (by simp), ih]; rfl
theorem atW_last {l : List Ed} (h : ∀ e ∈ l, 1 ≤ lenE e) (hne : l ≠ []) : atW l (sumL l) = ((l.getLast hne).x1, (l.getLast hne).y1) := by
  have hl : 0 < l.length := List.length_pos_iff.2 hne
  have h1 : l.take (l.length - 1 + 1) = l := List.take_of_length_le (by omega)
  have h2 := sumL_take l (l.length - 1) (by omega)
  rw [h1] at h2
  have hm := h _ (List.getElem_mem (show l.length - 1 < l.length by omega))
  rw [atW_at l (l.length - 1) (sumL l) (by omega) (fun _ => by omega) (by rw [h1]; omega)]
  have e : sumL l - sumL (l.take (l.length - 1)) = lenE l[l.length - 1] := by omega
  rw [e, (atE_ends hm).2, List.getLast_eq_getElem]
theorem atW_first {e : Ed} {l : List Ed} (h : 1 ≤ lenE e) : atW (e :: l) 0 = (e.x0, e.y0) := by
  unfold atW; rw [if_pos (by omega), (atE_ends h).1]
theorem part_all {c : Ct} (h : GoodC c) (hb : ∀ e ∈ c.es, e.bent = false) (hne : piecesC c ≠ []) : partW (piecesC c) 0 (sumL (piecesC c)) = ⟨1, c.x, c.y, 0, 0⟩ :: (piecesC c).map lnE := by
  have hok : ∀ e ∈ piecesC c, 1 ≤ lenE e := fun e he => by
    obtain ⟨h1, h2⟩ := piecesC_ok h hb e he
    exact lenE_pos h1.2 h2
  unfold partW
  rw [atW_last hok hne]
  rcases pieces_start h with h0 | ⟨e, r, h1, h2, h3⟩
  · exact absurd h0 hne
  · have hlast : ∀ (L : List Ed) (hL : L ≠ []) (he : L = e :: r), L.getLast hL = (e :: r).getLast (by simp) := by intro L hL he; subst he; rfl
    rw [hlast _ hne h1]
    rw [h1] at hok ⊢
    rw [atW_first (hok e (by simp)), h2, h3]
    have := innF_all r e 0 0 hok (Int.le_refl _)
    rw [Int.zero_add] at this
    rw [← this]; rfl
theorem row_none : Row [30000, 5] := ⟨by simp, by simp, by simp⟩
theorem dash_none {c : Ct} (h : GoodC c) (hb : ∀ e ∈ c.es, e.bent = false) (hs : sumL (piecesC c) ≤ 30000) : dashC [30000, 5] 0 c = noneC c := by
  unfold dashC noneC
  by_cases h0 : (piecesC c).length = 0
  · rw [if_pos h0]
    have : piecesC c = [] := List.eq_nil_of_length_eq_zero h0
    rw [this]; exact dashW_none rfl _ _
  · have hne : piecesC c ≠ [] := fun e => h0 (by rw [e]; rfl)
    have hp : 1 ≤ sumL (piecesC c) := by
      obtain ⟨e, r, he⟩ : ∃ e r, piecesC c = e :: r := by cases hh : piecesC c with | nil => exact absurd hh hne | cons e r => exact ⟨e, r, rfl⟩
      have h1 := piecesC_ok h hb e (by rw [he]; simp)
      have h2 := lenE_pos h1.1.2 h1.2
      have h3 := sumL_nonneg r
      rw [he]; simp only [sumL]; omega
    have p0 : pre [30000, 5] 0 = 0 := rfl
    have p1 : pre [30000, 5] 1 = 30000 := by simp [pre]
    have p2 : pre [30000, 5] 2 = 30005 := by simp [pre]
    rw [if_neg h0, ← dashTo_all row_none (k := 2) (by rw [p2]; omega)]
    have e0 : dashAt [30000, 5] 0 (piecesC c) 0 = partW (piecesC c) 0 (sumL (piecesC c)) := by
      unfold dashAt
      rw [p0, show 0 + 1 = 1 from rfl, p1, if_pos (by omega)]
      congr 1 <;> omega
    have e1 : dashAt [30000, 5] 0 (piecesC c) 1 = [] := by unfold dashAt; rw [if_neg (by omega)]
    rw [dashTo_succ, dashTo_succ, e0, e1, part_all h hb hne]
    simp [dashTo]
/-- On a small page. -/
def sm (v : Int) : Prop := -32 ≤ v ∧ v < 288
def SmE (e : Ed) : Prop := sm e.x0 ∧ sm e.y0 ∧ sm e.x1 ∧ sm e.y1
def SmC (c : Ct) : Prop := sm c.x ∧ sm c.y ∧ ∀ e ∈ c.es, SmE e
theorem cts_small : ∀ (l : List Sg) (st : List Ct × Int × Int), (∀ s ∈ l, smallSg s) → sm st.2.1 → sm st.2.2 → (∀ c ∈ st.1, SmC c) → ∀ c ∈ (l.foldl ctStep st).1, SmC c
  | [], _, _, _, _, h => h
  | s :: l, st, hk, hx, hy, h => by
    rw [List.foldl_cons]
    have hs := hk s (by simp)
    have hk' : ∀ t ∈ l, smallSg t := fun t ht => hk t (by simp [ht])
    unfold ctStep
    split
    · refine cts_small l _ hk' hs.1 hs.2.1 fun c hc => ?_
      rw [List.mem_append, List.mem_singleton] at hc
      rcases hc with hc | rfl
      · exact h c hc
      · exact ⟨hs.1, hs.2.1, fun e he => by simp at he⟩
    · split
      · refine cts_small l _ hk' hx hy fun c hc => ?_
        rcases mem_modLast _ _ _ hc with hc | ⟨d, hd, rfl⟩
        · exact h c hc
        · exact h d hd
      · refine cts_small l _ hk' hs.1 hs.2.1 fun c hc => ?_
        rcases mem_modLast _ _ _ hc with hc | ⟨d, hd, rfl⟩
        · exact h c hc
        · obtain ⟨d1, d2, d3⟩ := h d hd
          refine ⟨d1, d2, fun e he => ?_⟩
          simp only [List.mem_append, List.mem_singleton] at he
          rcases he with he | rfl
          · exact d3 e he
          · exact ⟨hx, hy, hs.1, hs.2.1⟩
theorem ctsL_small {l : List Sg} (h : ∀ s ∈ l, smallSg s) : ∀ c ∈ ctsL l, SmC c := by
  unfold ctsL; split
  · intro c hc; simp at hc
  · exact cts_small l _ h (by unfold sm; simp) (by unfold sm; simp) (fun c hc => by simp at hc)
theorem len_small {e : Ed} (h : SmE e) : lenE e ≤ 452 := by
  obtain ⟨⟨a1, a2⟩, ⟨b1, b2⟩, ⟨c1, c2⟩, ⟨d1, d2⟩⟩ := h
  have a := sq_bd (a := e.x1 - e.x0) (A := 319) (by omega)
  have b := sq_bd (a := e.y1 - e.y0) (A := 319) (by omega)
  unfold lenE
  exact flr_le (by unfold sqE; omega) (by unfold sqE; omega) (by omega) (by unfold sqE; omega)
theorem end_small : ∀ (es : List Ed) (x y : Int), (∀ e ∈ es, SmE e) → sm x → sm y → sm (endX x es) ∧ sm (endY y es)
  | [], _, _, _, hx, hy => ⟨hx, hy⟩
  | e :: es, x, y, h, _, _ => by
    rw [endX_cons, endY_cons]
    have := h e (by simp)
    exact end_small es _ _ (fun d hd => h d (by simp [hd])) this.2.2.1 this.2.2.2
theorem pieces_small {c : Ct} (h : SmC c) : ∀ e ∈ piecesC c, SmE e := by
  intro e he
  unfold piecesC at he
  rw [List.mem_append, List.mem_filter] at he
  rcases he with he | he
  · exact h.2.2 e he.1
  · split at he
    · rw [List.mem_singleton] at he
      subst he
      obtain ⟨h1, h2⟩ := end_small c.es c.x c.y h.2.2 h.1 h.2.1
      exact ⟨h1, h2, h.1, h.2.1⟩
    · simp at he
theorem sum_small : ∀ (l : List Ed), (∀ e ∈ l, SmE e) → sumL l ≤ 452 * l.length
  | [], _ => by simp [sumL]
  | e :: l, h => by
    have := sum_small l (fun d hd => h d (by simp [hd]))
    have := len_small (h e (by simp))
    simp only [sumL, List.length_cons]; omega
theorem piecesC_len2 (c : Ct) : (piecesC c).length ≤ c.es.length + (clL c.shut).length := by
  unfold piecesC
  rw [List.length_append]
  have := List.length_filter_le moved c.es
  cases hs : c.shut
  · simp; omega
  · rw [Bool.true_and]
    have h2 : (clL true).length = 1 := rfl
    rw [h2]
    by_cases hm : moved (backE c) = true
    · rw [if_pos hm]; simp; omega
    · rw [if_neg hm]; simp; omega
theorem noneC_len (c : Ct) : (noneC c).length ≤ (pathC c).length := by
  have h := piecesC_len2 c
  have hp : (pathC c).length = 1 + (c.es.length + (clL c.shut).length) := by unfold pathC; simp [Nat.add_comm]
  rw [hp]
  unfold noneC
  by_cases h0 : (piecesC c).length = 0
  · rw [if_pos h0]; simp
  · rw [if_neg h0, List.length_cons, List.length_map]; omega
theorem none_law {l : List Sg} (h : MadeOK l false) : cutL [30000, 5] 0 l = (noneL l, 0) ∧ (noneL l).length ≤ 12 := by
  have hmay := h.may
  have hl := h.2.1
  have hd : dashL [30000, 5] 0 l = noneL l := by
    unfold dashL noneL
    have hc : ∀ c ∈ ctsL l, dashC [30000, 5] 0 c = noneC c := fun c hc => by
      refine dash_none (ctsL_good l c hc) (ctsL_straight (fun s hs => h.2.2.2 rfl s hs) c hc) ?_
      have h1 := sum_small _ (pieces_small (ctsL_small h.2.2.1 c hc))
      have h2 := piecesC_len c
      have h3 := cts_es l c hc
      omega
    generalize ctsL l = cs at hc
    induction cs with
    | nil => rfl
    | cons c cs ih =>
      rw [List.flatMap_cons, List.flatMap_cons, hc c (by simp), ih (fun d hd => hc d (by simp [hd]))]
  have hlen : (noneL l).length ≤ 12 := by
    have h1 : (noneL l).length ≤ (pathOf (ctsL l)).length := by
      unfold noneL pathOf
      generalize ctsL l = cs
      induction cs with
      | nil => simp
      | cons c cs ih =>
        have := noneC_len c
        rw [List.flatMap_cons, List.flatMap_cons, List.length_append, List.length_append]; omega
    rw [pathOf_ctsL hmay] at h1
    omega
  exact ⟨by rw [cutL_all (by simp) (by rw [hd]; omega), hd], hlen⟩

end Go.Proofs.Ytbbffeddlgfeiaa
