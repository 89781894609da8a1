/- The plain law of Box: it is the box of the path's points; a turned path has the same points. -/
import Derived.Test.YtbbffeddlgfeiaaBoxP
import Derived.Test.YtbbffeddlgfeiaaBackP
namespace Go.Proofs.Ytbbffeddlgfeiaa

def ptE (e : Ed) : List (Int × Int) := (if e.bent then [(e.cx, e.cy)] else []) ++ [(e.x1, e.y1)]
def ptS (s : Sg) : List (Int × Int) := if s.kind = 4 then [] else (if s.kind = 3 then [(s.cx, s.cy)] else []) ++ [(s.x, s.y)]
/-- A path's points. -/
def pts (l : List Sg) : List (Int × Int) := l.flatMap ptS
def ptC (c : Ct) : List (Int × Int) := (c.x, c.y) :: c.es.flatMap ptE

structure IsBox (b : Bx) (P : Int × Int → Prop) : Prop where
  all : ∀ p, P p → b.x0 ≤ p.1 ∧ p.1 ≤ b.x1 ∧ b.y0 ≤ p.2 ∧ p.2 ≤ b.y1
  x0 : ∃ p, P p ∧ p.1 = b.x0
  x1 : ∃ p, P p ∧ p.1 = b.x1
  y0 : ∃ p, P p ∧ p.2 = b.y0
  y1 : ∃ p, P p ∧ p.2 = b.y1

theorem IsBox.uniq {b b' : Bx} {P : Int × Int → Prop} (h : IsBox b P) (h' : IsBox b' P) : b = b' := by
  obtain ⟨a, ⟨p0, q0, e0⟩, ⟨p1, q1, e1⟩, ⟨p2, q2, e2⟩, ⟨p3, q3, e3⟩⟩ := h
  obtain ⟨a', ⟨p0', q0', e0'⟩, ⟨p1', q1', e1'⟩, ⟨p2', q2', e2'⟩, ⟨p3', q3', e3'⟩⟩ := h'
  have := a' _ q0; have := a' _ q1; have := a' _ q2; have := a' _ q3
  have := a _ q0'; have := a _ q1'; have := a _ q2'; have := a _ q3'
  obtain ⟨x0, y0, x1, y1⟩ := b
  obtain ⟨x0', y0', x1', y1'⟩ := b'
  simp only at *
  rw [Bx.mk.injEq]; omega
theorem IsBox.congr {b : Bx} {P Q : Int × Int → Prop} (h : IsBox b P) (hPQ : ∀ p, P p ↔ Q p) : IsBox b Q := by
  have : P = Q := funext fun p => propext (hPQ p)
  rw [← this]; exact h
theorem lo_le (a x : Int) : loI a x ≤ a ∧ loI a x ≤ x ∧ (loI a x = a ∨ loI a x = x) := by unfold loI; split <;> omega
theorem hi_le (a x : Int) : a ≤ hiI a x ∧ x ≤ hiI a x ∧ (hiI a x = a ∨ hiI a x = x) := by unfold hiI; split <;> omega
theorem IsBox.wid {b : Bx} {P : Int × Int → Prop} (h : IsBox b P) (x y : Int) : IsBox (wid b x y) (fun p => P p ∨ p = (x, y)) := by
  obtain ⟨a, ⟨p0, q0, e0⟩, ⟨p1, q1, e1⟩, ⟨p2, q2, e2⟩, ⟨p3, q3, e3⟩⟩ := h
  have h0 := lo_le b.x0 x
  have h1 := lo_le b.y0 y
  have h2 := hi_le b.x1 x
  have h3 := hi_le b.y1 y
  refine ⟨fun p hp => ?_, ?_, ?_, ?_, ?_⟩
  · simp only [Proofs.Ytbbffeddlgfeiaa.wid]
    rcases hp with hp | rfl
    · have := a p hp; omega
    · simp only; omega
  · rcases h0.2.2 with e | e
    · exact ⟨p0, .inl q0, by simp only [Proofs.Ytbbffeddlgfeiaa.wid]; rw [e, e0]⟩
    · exact ⟨(x, y), .inr rfl, by simp only [Proofs.Ytbbffeddlgfeiaa.wid]; rw [e]⟩
  · rcases h2.2.2 with e | e
    · exact ⟨p1, .inl q1, by simp only [Proofs.Ytbbffeddlgfeiaa.wid]; rw [e, e1]⟩
    · exact ⟨(x, y), .inr rfl, by simp only [Proofs.Ytbbffeddlgfeiaa.wid]; rw [e]⟩
  · rcases h1.2.2 with e | e
    · exact ⟨p2, .inl q2, by simp only [Proofs.Ytbbffeddlgfeiaa.wid]; rw [e, e2]⟩
    · exact ⟨(x, y), .inr rfl, by simp only [Proofs.Ytbbffeddlgfeiaa.wid]; rw [e]⟩
  · rcases h3.2.2 with e | e
    · exact ⟨p3, .inl q3, by simp only [Proofs.Ytbbffeddlgfeiaa.wid]; rw [e, e3]⟩
    · exact ⟨(x, y), .inr rfl, by simp only [Proofs.Ytbbffeddlgfeiaa.wid]; rw [e]⟩
theorem IsBox.fold : ∀ (L : List (Int × Int)) {b : Bx} {P : Int × Int → Prop} (_ : IsBox b P), IsBox (L.foldl (fun b p => Proofs.Ytbbffeddlgfeiaa.wid b p.1 p.2) b) (fun p => P p ∨ p ∈ L)
  | [], _, _, h => h.congr fun p => by simp
  | q :: L, b, P, h => by
    have := IsBox.fold L (h.wid q.1 q.2)
    refine this.congr fun p => ?_
    simp only [List.mem_cons, or_assoc]
theorem boxStep_pts (b : Bx) (s : Sg) : boxStep b s = (ptS s).foldl (fun b p => wid b p.1 p.2) b := by
  unfold boxStep ptS
  by_cases h4 : s.kind = 4
  · rw [if_pos h4, if_pos h4]; rfl
  · rw [if_neg h4, if_neg h4]
    by_cases h3 : s.kind = 3
    · rw [if_pos h3, if_pos h3]; rfl
    · rw [if_neg h3, if_neg h3]; rfl
theorem foldl_pts : ∀ (l : List Sg) (b : Bx), l.foldl boxStep b = (pts l).foldl (fun b p => wid b p.1 p.2) b
  | [], _ => rfl
  | s :: l, b => by
    have : pts (s :: l) = ptS s ++ pts l := by simp [pts]
    rw [List.foldl_cons, boxStep_pts, foldl_pts l, this, List.foldl_append]
theorem box_is {l : List Sg} (h : mayB l = true) (h0 : l ≠ []) : IsBox (boxFrom l) (· ∈ pts l) := by
  have hl := List.length_pos_iff.2 h0
  rw [boxFrom_get l hl, foldl_pts]
  have h1 : IsBox ⟨l[0].x, l[0].y, l[0].x, l[0].y⟩ (fun p => p = (l[0].x, l[0].y)) :=
    ⟨fun p hp => by subst hp; simp, ⟨_, rfl, rfl⟩, ⟨_, rfl, rfl⟩, ⟨_, rfl, rfl⟩, ⟨_, rfl, rfl⟩⟩
  refine (h1.fold (pts l)).congr fun p => ⟨fun hp => ?_, .inr⟩
  rcases hp with rfl | hp
  · have hk := may_first h hl
    unfold pts
    rw [List.mem_flatMap]
    exact ⟨l[0], List.getElem_mem hl, by unfold ptS; simp [hk]⟩
  · exact hp

theorem ptS_sgE (e : Ed) : ptS (sgE e) = ptE e := by
  unfold ptS ptE sgE
  cases e.bent <;> simp
theorem pts_pathOf (cs : List Ct) : pts (pathOf cs) = cs.flatMap ptC := by
  induction cs with
  | nil => rfl
  | cons c cs ih =>
    have h1 : pathOf (c :: cs) = pathC c ++ pathOf cs := by simp [pathOf]
    have h2 : pts (pathC c) = ptC c := by
      unfold pts pathC ptC
      rw [List.flatMap_cons, List.flatMap_append]
      have h3 : (c.es.map sgE).flatMap ptS = c.es.flatMap ptE := by
        rw [List.flatMap_map]; congr 1; funext e; exact ptS_sgE e
      have h4 : (clL c.shut).flatMap ptS = [] := by cases c.shut <;> simp [clL, ptS]
      rw [h3, h4]; simp [ptS]
    have h5 : pts (pathC c ++ pathOf cs) = pts (pathC c) ++ pts (pathOf cs) := by simp [pts]
    rw [h1, h5, h2, ih, List.flatMap_cons]
theorem mem_ptE {e : Ed} {p : Int × Int} : p ∈ ptE e ↔ (e.bent = true ∧ p = (e.cx, e.cy)) ∨ p = (e.x1, e.y1) := by
  unfold ptE; cases e.bent <;> simp
theorem turn_pts : ∀ (es : List Ed) (x y : Int), chain x y es → ∀ p : Int × Int,
    (p = (endX x es, endY y es) ∨ ∃ e ∈ es, (e.bent = true ∧ p = (e.cx, e.cy)) ∨ p = (e.x0, e.y0)) ↔ (p = (x, y) ∨ ∃ e ∈ es, (e.bent = true ∧ p = (e.cx, e.cy)) ∨ p = (e.x1, e.y1))
  | [], x, y, _, p => by simp [endX, endY]
  | e :: es, x, y, ⟨hx, hy, hc⟩, p => by
    have ih := turn_pts es e.x1 e.y1 hc p
    rw [endX_cons, endY_cons]
    simp only [List.mem_cons, exists_eq_or_imp]
    rw [hx, hy]
    grind
theorem ptC_turn {c : Ct} (h : GoodC c) (p : Int × Int) : p ∈ ptC (turnC c) ↔ p ∈ ptC c := by
  have := turn_pts c.es c.x c.y h.1 p
  unfold ptC
  rw [List.mem_cons, List.mem_cons, List.mem_flatMap, List.mem_flatMap]
  simp only [mem_ptE]
  simp only [turnC, List.mem_reverse, List.mem_map]
  rw [← this]
  constructor
  · rintro (h | ⟨_, ⟨e, he, rfl⟩, h⟩)
    · exact .inl h
    · exact .inr ⟨e, he, h⟩
  · rintro (h | ⟨e, he, h⟩)
    · exact .inl h
    · exact .inr ⟨flip e, ⟨e, he, rfl⟩, h⟩
theorem boxL_back {l : List Sg} (h : mayB l = true) : boxL (backL l) = boxL l := by
  unfold boxL
  rw [backL_may h, h]
  by_cases h0 : l = []
  · subst h0; rfl
  · have h1 : backL l ≠ [] := fun e => h0 (List.length_eq_zero_iff.1 (by rw [← backL_len h, e]; rfl))
    rw [if_neg (by simp [h1]), if_neg (by simp [h0])]
    have hb := box_is (backL_may h) h1
    have ha := box_is h h0
    have : boxFrom (backL l) = boxFrom l := hb.uniq (ha.congr fun p => by
      have e1 : pts l = (ctsL l).flatMap ptC := by rw [← pts_pathOf, pathOf_ctsL h]
      have e2 : pts (backL l) = ((ctsL l).map turnC).flatMap ptC := by unfold backL; rw [pts_pathOf]
      rw [e1, e2, List.mem_flatMap, List.mem_flatMap]
      constructor
      · rintro ⟨c, hc, hp⟩
        exact ⟨turnC c, List.mem_map.2 ⟨c, hc, rfl⟩, (ptC_turn (ctsL_good l c hc) p).2 hp⟩
      · rintro ⟨d, hd, hp⟩
        obtain ⟨c, hc, rfl⟩ := List.mem_map.1 hd
        exact ⟨c, hc, (ptC_turn (ctsL_good l c hc) p).1 hp⟩)
    rw [this]

end Go.Proofs.Ytbbffeddlgfeiaa
