/- The plain law of DashBack. -/
import Derived.Test.YtbbffeddlgfeiaaDash6P
import Derived.Test.YtbbffeddlgfeiaaDashSqP
import Derived.Test.YtbbffeddlgfeiaaJoinP
import Derived.Test.YtbbffeddlgfeiaaBoxQ
namespace Go.Proofs.Ytbbffeddlgfeiaa

theorem join_cts {l m : List Sg} (hl : mayB l = true) (hm : mayB m = true) (hlen : l.length + m.length ≤ 300) :
    ∃ J, joinL l m = (J, 0) ∧ J.length ≤ l.length + m.length ∧ mayB J = true ∧ (∀ s ∈ J, s ∈ l ∨ s ∈ m) ∧ (ctsL J = ctsL l ++ ctsL m ∨ ∃ a c, ctsL l = a ++ [c] ∧ bare c = true ∧ ctsL J = a ++ ctsL m) := by
  have el := pathOf_ctsL hl
  have em := pathOf_ctsL hm
  have gl := ctsL_good l
  have gm := ctsL_good m
  have hl' := hl
  have hm' := hm
  rw [← el, mayB_pathOf gl] at hl'
  rw [← em, mayB_pathOf gm] at hm'
  have key : ∀ cs : List Ct, (∀ c ∈ cs, GoodC c) → ends cs = true → (pathOf cs).length ≤ 300 → mayB (pathOf cs) = true ∧ ctsL (pathOf cs) = cs := fun cs g e hn => by
    have h := (mayB_pathOf g).2 ⟨hn, e⟩
    exact ⟨h, ctsL_pathOf g h⟩
  have hj : joinL l m = longL (if lastK l = 1 ∧ m ≠ [] then l.dropLast else l) m := by unfold joinL; rw [if_neg (by simp [hl, hm])]
  rw [hj]
  by_cases hc : lastK l = 1 ∧ m ≠ []
  · rw [if_pos hc]
    have hne : ctsL l ≠ [] := fun e => lastK_ne hc.1 (by rw [← el, e]; rfl)
    obtain ⟨a, c, hac⟩ := snoc_of_ne _ hne
    have hbc : bare c = true := by
      rw [← lastK_pathC c (pathOf a), ← pathOf_snoc, ← hac, el]; exact hc.1
    have hdl : l.dropLast = pathOf a := by
      conv => lhs; rw [← el, hac, pathOf_snoc, (bare_edges hbc).2]
      simp
    rw [hac] at gl hl'
    have ha := ends_bare a c hl'.2
    have hJ : l.dropLast ++ m = pathOf (a ++ ctsL m) := by rw [pathOf_app, em, hdl]
    have hJl : (l.dropLast ++ m).length ≤ l.length + m.length := by rw [List.length_append, List.length_dropLast]; omega
    obtain ⟨h1, h2⟩ := key (a ++ ctsL m) (fun d hd => (List.mem_append.1 hd).elim (fun h => gl d (by simp [h])) (gm d)) (ends_app a _ ha hm'.2) (by rw [← hJ]; omega)
    refine ⟨l.dropLast ++ m, longL_ok (by rw [List.length_dropLast]; omega), hJl, by rw [hJ]; exact h1, ?_, .inr ⟨a, c, hac, hbc, by rw [hJ]; exact h2⟩⟩
    intro s hs
    rcases List.mem_append.1 hs with h | h
    · exact .inl ((List.dropLast_sublist l).subset h)
    · exact .inr h
  · rw [if_neg hc]
    have hJ : l ++ m = pathOf (ctsL l ++ ctsL m) := by rw [pathOf_app, el, em]
    have hJl : (l ++ m).length ≤ l.length + m.length := by rw [List.length_append]; omega
    have hends : ends (ctsL l ++ ctsL m) = true := by
      by_cases hmn : m = []
      · have : ctsL m = [] := by rw [hmn]; rfl
        rw [this, List.append_nil]; exact hl'.2
      · refine ends_app _ _ (fun d hd => ?_) hm'.2
        have hne : ctsL l ≠ [] := fun e => by rw [e] at hd; simp at hd
        obtain ⟨a, c, hac⟩ := snoc_of_ne _ hne
        rw [hac] at hd hl'
        rcases List.mem_append.1 hd with h | h
        · exact ends_bare a c hl'.2 d h
        · rw [List.mem_singleton] at h; subst h
          cases hb : bare d
          · rfl
          · exact absurd ⟨by rw [← el, hac, pathOf_snoc]; exact (lastK_pathC d _).2 hb, hmn⟩ hc
    obtain ⟨h1, h2⟩ := key (ctsL l ++ ctsL m) (fun d hd => (List.mem_append.1 hd).elim (gl d) (gm d)) hends (by rw [← hJ]; omega)
    exact ⟨l ++ m, longL_ok hlen, hJl, by rw [hJ]; exact h1, fun s hs => List.mem_append.1 hs, .inl (by rw [hJ]; exact h2)⟩
theorem bare_dash {c : Ct} (h : bare c = true) (on : List Int) (f : Int) : dashC on f c = [] := by
  have : piecesC c = [] := by
    simp only [bare, Bool.and_eq_true, Bool.not_eq_true', List.isEmpty_iff] at h
    unfold piecesC; rw [h.1, h.2]; simp
  unfold dashC; rw [this]; exact dashW_none rfl on f
theorem join_dash {l m J : List Sg} (h : ctsL J = ctsL l ++ ctsL m ∨ ∃ a c, ctsL l = a ++ [c] ∧ bare c = true ∧ ctsL J = a ++ ctsL m) (on : List Int) (f : Int) : dashL on f J = dashL on f l ++ dashL on f m := by
  unfold dashL
  rcases h with h | ⟨a, c, h1, h2, h3⟩
  · rw [h, List.flatMap_append]
  · rw [h3, h1, List.flatMap_append, List.flatMap_append]
    simp [bare_dash h2]

/-- A point in a box. -/
def InB (b : Bx) (x y : Int) : Prop := b.x0 ≤ x ∧ x ≤ b.x1 ∧ b.y0 ≤ y ∧ y ≤ b.y1
theorem between_in {L U x0 x1 m k : Int} (h0 : L ≤ x0 ∧ x0 ≤ U) (h1 : L ≤ x1 ∧ x1 ≤ U) (hm : 1 ≤ m) (hk : 0 ≤ k ∧ k ≤ m) : L ≤ rnd (x0 * m + (x1 - x0) * k) m ∧ rnd (x0 * m + (x1 - x0) * k) m ≤ U := by
  have a := Int.mul_le_mul_of_nonneg_right h0.1 (show 0 ≤ m - k by omega)
  have b := Int.mul_le_mul_of_nonneg_right h1.1 hk.1
  have c := Int.mul_le_mul_of_nonneg_right h0.2 (show 0 ≤ m - k by omega)
  have d := Int.mul_le_mul_of_nonneg_right h1.2 hk.1
  have e : x0 * m + (x1 - x0) * k = x0 * (m - k) + x1 * k := by grind
  have e1 : L * (m - k) + L * k = L * m := by grind
  have e2 : U * (m - k) + U * k = U * m := by grind
  rw [e]
  exact rnd_between _ _ _ _ (by omega) (by omega) (by omega)
theorem at_in {b : Bx} : ∀ {ps : List Ed} {s : Int}, (∀ e ∈ ps, InB b e.x0 e.y0 ∧ InB b e.x1 e.y1 ∧ 1 ≤ lenE e) → ps ≠ [] → 0 ≤ s → s ≤ sumL ps → InB b (atW ps s).1 (atW ps s).2
  | [], _, _, h, _, _ => absurd rfl h
  | e :: l, s, h, _, h0, h1 => by
    obtain ⟨⟨a1, a2, a3, a4⟩, ⟨b1, b2, b3, b4⟩, hl⟩ := h e (by simp)
    unfold atW
    by_cases hs : s ≤ lenE e
    · rw [if_pos hs]
      have hx := between_in (x0 := e.x0) (x1 := e.x1) (k := s) ⟨a1, a2⟩ ⟨b1, b2⟩ hl ⟨h0, hs⟩
      have hy := between_in (x0 := e.y0) (x1 := e.y1) (k := s) ⟨a3, a4⟩ ⟨b3, b4⟩ hl ⟨h0, hs⟩
      exact ⟨hx.1, hx.2, hy.1, hy.2⟩
    · rw [if_neg hs]
      simp only [sumL] at h1
      refine at_in (fun d hd => h d (by simp [hd])) ?_ (by omega) (by omega)
      rintro rfl
      simp only [sumL] at h1; omega
theorem part_in {b : Bx} {ps : List Ed} {u v : Int} (h : ∀ e ∈ ps, InB b e.x0 e.y0 ∧ InB b e.x1 e.y1 ∧ 1 ≤ lenE e) (hne : ps ≠ []) (hu : 0 ≤ u ∧ u ≤ sumL ps) (hv : 0 ≤ v ∧ v ≤ sumL ps) : ∀ s ∈ partW ps u v, InB b s.x s.y := by
  intro s hs
  unfold partW at hs
  rw [List.mem_cons, List.mem_append, List.mem_singleton] at hs
  rcases hs with rfl | hs | rfl
  · exact at_in h hne hu.1 hu.2
  · have : ∀ (l : List Ed) (t : Int), (∀ e ∈ l, InB b e.x1 e.y1) → ∀ s ∈ innF t l u v, InB b s.x s.y := by
      intro l
      induction l with
      | nil => intro t _ s hs; simp [innF] at hs
      | cons e l ih =>
        intro t hl s hs
        simp only [innF, List.mem_append] at hs
        rcases hs with hs | hs
        · unfold innE at hs
          split at hs
          · rw [List.mem_singleton] at hs; subst hs; exact hl e (by simp)
          · simp at hs
        · exact ih _ (fun d hd => hl d (by simp [hd])) s hs
    exact this ps 0 (fun e he => (h e he).2.1) s hs
  · exact at_in h hne hv.1 hv.2
theorem dash_in {b : Bx} {ps : List Ed} {on : List Int} (hr : Row on) (f : Int) (h : ∀ e ∈ ps, InB b e.x0 e.y0 ∧ InB b e.x1 e.y1 ∧ 1 ≤ lenE e) : ∀ s ∈ dashW on f ps, InB b s.x s.y := by
  intro s hs
  unfold dashW dashTo at hs
  rw [List.mem_flatMap] at hs
  obtain ⟨j, _, hs⟩ := hs
  unfold dashAt at hs
  have hst := (hr.step j).1
  split at hs
  · rename_i hc
    refine part_in h ?_ (by omega) (by omega) s hs
    rintro rfl
    simp only [sumL] at hc; omega
  · simp at hs
theorem chain_pts : ∀ (es : List Ed) (x y : Int), chain x y es → (∀ e ∈ es, (e.x0 = x ∧ e.y0 = y) ∨ ∃ d ∈ es, e.x0 = d.x1 ∧ e.y0 = d.y1) ∧ ((endX x es = x ∧ endY y es = y) ∨ ∃ d ∈ es, endX x es = d.x1 ∧ endY y es = d.y1)
  | [], x, y, _ => ⟨fun e he => by simp at he, .inl ⟨rfl, rfl⟩⟩
  | e :: es, x, y, h => by
    obtain ⟨hx, hy, hc⟩ : e.x0 = x ∧ e.y0 = y ∧ chain e.x1 e.y1 es := h
    obtain ⟨h1, h2⟩ := chain_pts es e.x1 e.y1 hc
    constructor
    · intro d hd
      rcases List.mem_cons.1 hd with rfl | hd
      · exact .inl ⟨hx, hy⟩
      · right
        rcases h1 d hd with h | ⟨g, hg, h⟩
        · exact ⟨e, by simp, h⟩
        · exact ⟨g, by simp [hg], h⟩
    · right
      rw [endX_cons, endY_cons]
      rcases h2 with h | ⟨g, hg, h⟩
      · exact ⟨e, by simp, h⟩
      · exact ⟨g, by simp [hg], h⟩
theorem pieces_pts {c : Ct} (h : GoodC c) : ∀ e ∈ piecesC c, (e.x0, e.y0) ∈ ptC c ∧ (e.x1, e.y1) ∈ ptC c := by
  obtain ⟨h1, h2⟩ := chain_pts c.es c.x c.y h.1
  have hend : ∀ d ∈ c.es, (d.x1, d.y1) ∈ ptC c := fun d hd => by
    unfold ptC
    rw [List.mem_cons, List.mem_flatMap]
    exact .inr ⟨d, hd, mem_ptE.2 (.inr rfl)⟩
  have hst : (c.x, c.y) ∈ ptC c := by unfold ptC; simp
  intro e he
  unfold piecesC at he
  rw [List.mem_append, List.mem_filter] at he
  rcases he with he | he
  · refine ⟨?_, hend e he.1⟩
    rcases h1 e he.1 with ⟨a, b⟩ | ⟨d, hd, a, b⟩
    · rw [a, b]; exact hst
    · rw [a, b]; exact hend d hd
  · split at he
    · rw [List.mem_singleton] at he
      subst he
      refine ⟨?_, hst⟩
      show (endX c.x c.es, endY c.y c.es) ∈ ptC c
      rcases h2 with ⟨a, b⟩ | ⟨d, hd, a, b⟩
      · rw [a, b]; exact hst
      · rw [a, b]; exact hend d hd
    · simp at he
/-- What is drawn lies within the path's box. -/
theorem box_in {J D : List Sg} {on : List Int} {f : Int} {b : Bx} (hJ : mayB J = true) (hb : ∀ s ∈ J, s.kind ≠ 3) (hr : Row on) (hD : D = dashL on f J) (hbox : boxL D = (b, true)) :
    ∃ b0, boxL J = (b0, true) ∧ b0.x0 ≤ b.x0 ∧ b0.y0 ≤ b.y0 ∧ b.x1 ≤ b0.x1 ∧ b.y1 ≤ b0.y1 := by
  have hDn : ¬ (D = [] ∨ mayB D = false) := by
    intro h; unfold boxL at hbox; rw [if_pos h] at hbox; cases hbox
  have hD0 : D ≠ [] := fun h => hDn (.inl h)
  have hDm : mayB D = true := by cases hh : mayB D; exact absurd (.inr hh) hDn; rfl
  have hJ0 : J ≠ [] := by
    rintro rfl
    exact hD0 (by rw [hD]; rfl)
  have hbJ : boxL J = (boxFrom J, true) := by unfold boxL; rw [if_neg (by simp [hJ0, hJ])]
  have hbD : b = boxFrom D := by
    unfold boxL at hbox; rw [if_neg hDn] at hbox; exact (Prod.mk.inj hbox).1.symm
  have iJ := box_is hJ hJ0
  have iD := box_is hDm hD0
  rw [← hbD] at iD
  have hpt : ∀ p ∈ pts J, InB (boxFrom J) p.1 p.2 := fun p hp => iJ.all p hp
  have heJ : pts J = (ctsL J).flatMap ptC := by rw [← pts_pathOf, pathOf_ctsL hJ]
  have hall : ∀ s ∈ D, InB (boxFrom J) s.x s.y := by
    rw [hD]; unfold dashL
    intro s hs
    rw [List.mem_flatMap] at hs
    obtain ⟨c, hc, hs⟩ := hs
    have hg := ctsL_good J c hc
    have hin : ∀ p ∈ ptC c, InB (boxFrom J) p.1 p.2 := fun p hp => hpt p (by rw [heJ, List.mem_flatMap]; exact ⟨c, hc, hp⟩)
    refine dash_in hr f (fun e he => ?_) s hs
    obtain ⟨p1, p2⟩ := pieces_pts hg e he
    obtain ⟨q1, q2⟩ := piecesC_ok hg (ctsL_straight hb c hc) e he
    exact ⟨hin _ p1, hin _ p2, lenE_pos q1.2 q2⟩
  have hkind : ∀ s ∈ D, s.kind ≠ 3 := by
    rw [hD]; unfold dashL dashC dashW dashTo
    intro s hs
    simp only [List.mem_flatMap] at hs
    obtain ⟨c, _, j, _, hs⟩ := hs
    unfold dashAt at hs
    split at hs
    · unfold partW at hs
      rw [List.mem_cons, List.mem_append, List.mem_singleton] at hs
      rcases hs with rfl | hs | rfl
      · simp
      · have : ∀ (l : List Ed) (t u v : Int), ∀ s ∈ innF t l u v, s.kind ≠ 3 := by
          intro l
          induction l with
          | nil => intro t u v s hs; simp [innF] at hs
          | cons e l ih =>
            intro t u v s hs
            simp only [innF, List.mem_append] at hs
            rcases hs with hs | hs
            · unfold innE at hs
              split at hs
              · rw [List.mem_singleton] at hs; subst hs; simp
              · simp at hs
            · exact ih _ _ _ s hs
        exact this _ _ _ _ s hs
      · simp
    · simp at hs
  have hpD : ∀ p ∈ pts D, InB (boxFrom J) p.1 p.2 := by
    intro p hp
    unfold pts at hp
    rw [List.mem_flatMap] at hp
    obtain ⟨s, hs, hp⟩ := hp
    have := hall s hs
    unfold ptS at hp
    split at hp
    · simp at hp
    · rw [if_neg (hkind s hs)] at hp
      simp at hp; subst hp; exact this
  obtain ⟨_, ⟨p0, q0, e0⟩, ⟨p1, q1, e1⟩, ⟨p2, q2, e2⟩, ⟨p3, q3, e3⟩⟩ := iD
  have a0 := hpD _ q0
  have a1 := hpD _ q1
  have a2 := hpD _ q2
  have a3 := hpD _ q3
  exact ⟨boxFrom J, hbJ, by rw [← e0]; exact a0.1, by rw [← e2]; exact a2.2.2.1, by rw [← e1]; exact a1.2.1, by rw [← e3]; exact a3.2.2.2⟩
/-- The three results. -/
theorem back_cut {l m J : List Sg} {on : List Int} {f : Int} (hne : on ≠ []) (hd : dashL on f J = dashL on f l ++ dashL on f m) :
    (cutL on f J = ([], 5) ∧ 300 < (dashL on f l ++ dashL on f m).length) ∨ (cutL on f J = (dashL on f l ++ dashL on f m, 0) ∧ cutL on f l = (dashL on f l, 0) ∧ cutL on f m = (dashL on f m, 0) ∧ (dashL on f l ++ dashL on f m).length ≤ 300) := by
  by_cases h : 300 < (dashL on f l ++ dashL on f m).length
  · left
    exact ⟨by unfold cutL; rw [if_neg hne, hd, if_pos h], h⟩
  · right
    have h2 := h
    rw [List.length_append] at h2
    exact ⟨by rw [cutL_all hne (by rw [hd]; omega), hd], cutL_all hne (by omega), cutL_all hne (by omega), by omega⟩

end Go.Proofs.Ytbbffeddlgfeiaa
