/- What is drawn of a path is a path: its contours, plainly. -/
import Derived.Test.YtacolepcpbhceaaAllP
namespace Go.Proofs.Ytacolepcpbhceaa

/-- Straight edges from point to point. -/
def linesE : Int → Int → List Sg → List Ed
  | _, _, [] => []
  | x, y, s :: l => ⟨x, y, false, 0, 0, s.x, s.y⟩ :: linesE s.x s.y l
/-- A line's end on the page. -/
def LineP (s : Sg) : Prop := s.kind = 2 ∧ s.cx = 0 ∧ s.cy = 0 ∧ co s.x = true ∧ co s.y = true
theorem linesE_sg : ∀ (l : List Sg) (x y : Int), (∀ s ∈ l, LineP s) → (linesE x y l).map sgE = l
  | [], _, _, _ => rfl
  | s :: l, x, y, h => by
    obtain ⟨a, b, c, _, _⟩ := h s (by simp)
    have ih := linesE_sg l s.x s.y (fun t ht => h t (by simp [ht]))
    simp only [linesE, List.map_cons, ih]
    obtain ⟨k, u, v, p, q⟩ := s
    simp only at a b c
    subst a; subst b; subst c
    rfl
theorem linesE_chain : ∀ (l : List Sg) (x y : Int), chain x y (linesE x y l)
  | [], _, _ => trivial
  | s :: l, _, _ => ⟨rfl, rfl, linesE_chain l s.x s.y⟩
theorem linesE_ok : ∀ (l : List Sg) (x y : Int), co x = true → co y = true → (∀ s ∈ l, LineP s) → ∀ e ∈ linesE x y l, edOK e = true
  | [], _, _, _, _, _ => by simp [linesE]
  | s :: l, x, y, hx, hy, h => by
    obtain ⟨a, b, c, d, e⟩ := h s (by simp)
    intro f hf
    simp only [linesE, List.mem_cons] at hf
    rcases hf with rfl | hf
    · have h0 : co 0 = true := by decide
      simp [edOK, nearB, hx, hy, d, e, h0]
    · exact linesE_ok l s.x s.y d e (fun t ht => h t (by simp [ht])) f hf
theorem linesE_end : ∀ (l : List Sg) (x y : Int) (s : Sg), endX x (linesE x y (l ++ [s])) = s.x ∧ endY y (linesE x y (l ++ [s])) = s.y
  | [], x, y, s => ⟨rfl, rfl⟩
  | t :: l, x, y, s => by
    rw [List.cons_append]
    simp only [linesE]
    rw [endX_cons, endY_cons]
    exact linesE_end l t.x t.y s
/-- The page. -/
def pageB : Bx := ⟨-8191, -8191, 8191, 8191⟩
theorem in_page {x y : Int} : InB pageB x y ↔ co x = true ∧ co y = true := by
  simp only [InB, pageB, co_iff]; constructor <;> (intro h; omega)
theorem page_ps {ps : List Ed} (h : ∀ e ∈ ps, edOK e = true ∧ 1 ≤ lenE e) : ∀ e ∈ ps, InB pageB e.x0 e.y0 ∧ InB pageB e.x1 e.y1 ∧ 1 ≤ lenE e := by
  intro e he
  obtain ⟨h1, h2⟩ := h e he
  obtain ⟨a, b, c, d, f, g, _⟩ := edOK_iff.1 h1
  exact ⟨by simp only [InB, pageB]; omega, by simp only [InB, pageB]; omega, h2⟩
theorem innF_line {ps : List Ed} {u v : Int} : ∀ (t : Int) (s : Sg), s ∈ innF t ps u v → s.kind = 2 ∧ s.cx = 0 ∧ s.cy = 0 := by
  induction ps with
  | nil => intro t s hs; simp [innF] at hs
  | cons e l ih =>
    intro t s hs
    simp only [innF, List.mem_append] at hs
    rcases hs with hs | hs
    · unfold innE at hs
      split at hs
      · rw [List.mem_singleton] at hs; subst hs; exact ⟨rfl, rfl, rfl⟩
      · simp at hs
    · exact ih _ s hs
/-- The contour that is drawn from a place to a place. -/
def partC (ps : List Ed) (a b : Int) : Ct := ⟨(atW ps a).1, (atW ps a).2, linesE (atW ps a).1 (atW ps a).2 (innW ps a b ++ [⟨2, (atW ps b).1, (atW ps b).2, 0, 0⟩]), false⟩
theorem part_lines {ps : List Ed} {a b : Int} (h : ∀ e ∈ ps, edOK e = true ∧ 1 ≤ lenE e) (hne : ps ≠ []) (ha : 0 ≤ a ∧ a ≤ sumL ps) (hb : 0 ≤ b ∧ b ≤ sumL ps) :
    ∀ s ∈ innW ps a b ++ [⟨2, (atW ps b).1, (atW ps b).2, 0, 0⟩], LineP s := by
  have hin := part_in (page_ps h) hne ha hb
  intro s hs
  obtain ⟨c1, c2⟩ := in_page.1 (hin s (by unfold partW; exact List.mem_cons_of_mem _ hs))
  rw [List.mem_append, List.mem_singleton] at hs
  rcases hs with hs | rfl
  · obtain ⟨k1, k2, k3⟩ := innF_line 0 s hs
    exact ⟨k1, k2, k3, c1, c2⟩
  · exact ⟨rfl, rfl, rfl, c1, c2⟩
theorem partC_path {ps : List Ed} {a b : Int} (h : ∀ e ∈ ps, edOK e = true ∧ 1 ≤ lenE e) (hne : ps ≠ []) (ha : 0 ≤ a ∧ a ≤ sumL ps) (hb : 0 ≤ b ∧ b ≤ sumL ps) :
    pathC (partC ps a b) = partW ps a b := by
  unfold pathC partC partW
  rw [linesE_sg _ _ _ (part_lines h hne ha hb)]
  simp [clL]
theorem partC_good {ps : List Ed} {a b : Int} (h : ∀ e ∈ ps, edOK e = true ∧ 1 ≤ lenE e) (hne : ps ≠ []) (ha : 0 ≤ a ∧ a ≤ sumL ps) (hb : 0 ≤ b ∧ b ≤ sumL ps) :
    GoodC (partC ps a b) := by
  obtain ⟨c1, c2⟩ := in_page.1 (part_in (page_ps h) hne ha hb ⟨1, (atW ps a).1, (atW ps a).2, 0, 0⟩ (by unfold partW; simp))
  exact ⟨linesE_chain _ _ _, linesE_ok _ _ _ c1 c2 (part_lines h hne ha hb), c1, c2⟩
theorem partC_bare (ps : List Ed) (a b : Int) : bare (partC ps a b) = false ∧ (partC ps a b).shut = false ∧ (partC ps a b).es ≠ [] := by
  have : (partC ps a b).es ≠ [] := by
    unfold partC
    cases h : innW ps a b <;> simp [linesE]
  refine ⟨?_, rfl, this⟩
  cases hh : (partC ps a b).es with
  | nil => exact absurd hh this
  | cons e l => simp [bare, hh]
/-- The contours that are drawn. -/
def cAt (on : List Int) (f : Int) (ps : List Ed) (j : Nat) : List Ct :=
  if j % 2 = 0 ∧ 0 < sumL ps ∧ pre on j - f < sumL ps ∧ (0 < pre on (j + 1) - f ∨ (pre on (j + 1) - f = 0 ∧ pre on j - f = 0)) then [partC ps (max (pre on j - f) 0) (min (pre on (j + 1) - f) (sumL ps))] else []
def cutC (on : List Int) (f : Int) (c : Ct) : List Ct := (List.range (bnd on f (sumL (piecesC c)))).flatMap (cAt on f (piecesC c))
def cutCts (on : List Int) (f : Int) (l : List Sg) : List Ct := (ctsL l).flatMap (cutC on f)
theorem pathOf_flat {α : Type} (F : α → List Ct) : ∀ l : List α, pathOf (l.flatMap F) = l.flatMap fun a => pathOf (F a)
  | [] => rfl
  | a :: l => by rw [List.flatMap_cons, pathOf_app, pathOf_flat F l, List.flatMap_cons]
theorem cAt_facts {on : List Int} (hr : Row on) {f : Int} {ps : List Ed} {j : Nat} (h : ∀ e ∈ ps, edOK e = true ∧ 1 ≤ lenE e) :
    pathOf (cAt on f ps j) = dashAt on f ps j ∧ ∀ c ∈ cAt on f ps j, GoodC c ∧ ∃ a b, (0 ≤ a ∧ a ≤ sumL ps) ∧ (0 ≤ b ∧ b ≤ sumL ps) ∧ ps ≠ [] ∧ c = partC ps a b := by
  unfold cAt dashAt
  have hst := (hr.step j).1
  split
  · rename_i hc
    have hne : ps ≠ [] := by rintro rfl; simp only [sumL] at hc; omega
    have ha : 0 ≤ max (pre on j - f) 0 ∧ max (pre on j - f) 0 ≤ sumL ps := by omega
    have hb : 0 ≤ min (pre on (j + 1) - f) (sumL ps) ∧ min (pre on (j + 1) - f) (sumL ps) ≤ sumL ps := by omega
    refine ⟨?_, fun c hcm => ?_⟩
    · rw [← partC_path h hne ha hb]; simp [pathOf]
    · rw [List.mem_singleton] at hcm; subst hcm
      exact ⟨partC_good h hne ha hb, _, _, ha, hb, hne, rfl⟩
  · exact ⟨rfl, fun c hcm => by simp at hcm⟩
theorem pieces_len {c : Ct} (hg : GoodC c) (hb : ∀ e ∈ c.es, e.bent = false) : ∀ e ∈ piecesC c, edOK e = true ∧ 1 ≤ lenE e := fun e he => by
  obtain ⟨q1, q2⟩ := piecesC_ok hg hb e he
  exact ⟨q1.2, lenE_pos q1.2 q2⟩
theorem cutCts_path {on : List Int} (hr : Row on) (f : Int) {l : List Sg} (hb : ∀ s ∈ l, s.kind ≠ 3) : pathOf (cutCts on f l) = dashL on f l := by
  unfold cutCts dashL
  rw [pathOf_flat]
  have : ∀ cs : List Ct, (∀ c ∈ cs, pathOf (cutC on f c) = dashC on f c) → cs.flatMap (fun a => pathOf (cutC on f a)) = cs.flatMap (dashC on f) := by
    intro cs
    induction cs with
    | nil => intro _; rfl
    | cons c cs ih => intro h; rw [List.flatMap_cons, List.flatMap_cons, h c (by simp), ih (fun d hd => h d (by simp [hd]))]
  refine this _ fun c hc => ?_
  have hp := pieces_len (ctsL_good l c hc) (ctsL_straight hb c hc)
  unfold cutC dashC dashW dashTo
  rw [pathOf_flat]
  congr 1
  funext j
  exact (cAt_facts hr hp).1
theorem cutCts_facts {on : List Int} (hr : Row on) (f : Int) {l : List Sg} (hb : ∀ s ∈ l, s.kind ≠ 3) :
    ∀ d ∈ cutCts on f l, GoodC d ∧ ∃ c ∈ ctsL l, ∃ a b, (0 ≤ a ∧ a ≤ sumL (piecesC c)) ∧ (0 ≤ b ∧ b ≤ sumL (piecesC c)) ∧ piecesC c ≠ [] ∧ d = partC (piecesC c) a b := by
  intro d hd
  unfold cutCts cutC at hd
  rw [List.mem_flatMap] at hd
  obtain ⟨c, hc, hd⟩ := hd
  rw [List.mem_flatMap] at hd
  obtain ⟨j, _, hd⟩ := hd
  have hp := pieces_len (ctsL_good l c hc) (ctsL_straight hb c hc)
  obtain ⟨g, a, b, h1, h2, h3, h4⟩ := (cAt_facts hr hp).2 d hd
  exact ⟨g, c, hc, a, b, h1, h2, h3, h4⟩
theorem ends_all : ∀ cs : List Ct, (∀ c ∈ cs, bare c = false) → ends cs = true := fun cs h => by
  have := ends_app cs [] h rfl
  rwa [List.append_nil] at this
theorem dashL_may {on : List Int} (hr : Row on) (f : Int) {l : List Sg} (hb : ∀ s ∈ l, s.kind ≠ 3) (hn : (dashL on f l).length ≤ 300) :
    mayB (dashL on f l) = true ∧ ctsL (dashL on f l) = cutCts on f l := by
  have hg : ∀ c ∈ cutCts on f l, GoodC c := fun c hc => (cutCts_facts hr f hb c hc).1
  have he : ends (cutCts on f l) = true := ends_all _ fun c hc => by
    obtain ⟨_, _, _, a, b, _, _, _, rfl⟩ := cutCts_facts hr f hb c hc
    exact (partC_bare _ a b).1
  have hp := cutCts_path hr f hb
  rw [← hp] at hn ⊢
  have hm := (mayB_pathOf hg).2 ⟨hn, he⟩
  exact ⟨hm, ctsL_pathOf hg hm⟩
theorem cutL_may {on : List Int} (hon : on = [] ∨ Row on) {f : Int} {l L : List Sg} {er : Int} (hm : mayB l = true) (hb : ∀ s ∈ l, s.kind ≠ 3) (h : cutL on f l = (L, er)) : mayB L = true := by
  unfold cutL at h
  split at h
  · rw [← (Prod.mk.inj h).1]; exact hm
  · rename_i hne
    have hr := hon.resolve_left hne
    split at h
    · rw [← (Prod.mk.inj h).1]; rfl
    · rw [← (Prod.mk.inj h).1]; exact (dashL_may hr f hb (by omega)).1
end Go.Proofs.Ytacolepcpbhceaa
