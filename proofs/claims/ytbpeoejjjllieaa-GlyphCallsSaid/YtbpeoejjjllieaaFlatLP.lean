/- The plain side of flattening a path. -/
import Derived.Test.YtbpeoejjjllieaaFlatP
namespace Go.Proofs.Ytbpeoejjjllieaa

/-- A straight edge's piece. -/
def lnSg (e : Ed) : Sg := ⟨2, e.x1, e.y1, 0, 0⟩
/-- What becomes of one piece, behind a point. -/
def flatSeg (x y : Int) (s : Sg) : List Sg := if s.kind = 3 then (lns ⟨x, y, true, s.cx, s.cy, s.x, s.y⟩).map lnSg else [s]
def flatFrom : Int → Int → List Sg → List Sg
  | _, _, [] => []
  | x, y, s :: l => flatSeg x y s ++ flatFrom s.x s.y l
def flatL (l : List Sg) : List Sg := flatFrom 0 0 l
def lastX (l : List Sg) : Int := (l.getLast?.map Sg.x).getD 0
def lastY (l : List Sg) : Int := (l.getLast?.map Sg.y).getD 0
/-- The flat path, or the error. -/
def flatE (l : List Sg) : List Sg × Int := if mayB l = false then ([], 1) else if 300 < (flatL l).length then ([], 5) else (flatL l, 0)

theorem flatFrom_snoc (x y : Int) (l : List Sg) (s : Sg) : flatFrom x y (l ++ [s]) = flatFrom x y l ++ flatSeg ((l.getLast?.map Sg.x).getD x) ((l.getLast?.map Sg.y).getD y) s := by
  induction l generalizing x y with
  | nil => simp [flatFrom]
  | cons a l ih =>
    rw [List.cons_append, flatFrom, flatFrom, ih, List.append_assoc]
    congr 2
    cases l with
    | nil => simp
    | cons b l =>
      have h : ∃ z, (b :: l).getLast? = some z := ⟨_, List.getLast?_eq_some_getLast (by simp)⟩
      obtain ⟨z, hz⟩ := h
      simp only [List.getLast?_cons_cons, hz, Option.map_some, Option.getD_some]
theorem flatL_take (l : List Sg) (k : Nat) (h : k < l.length) : flatL (l.take (k + 1)) = flatL (l.take k) ++ flatSeg (lastX (l.take k)) (lastY (l.take k)) l[k] := by
  rw [List.take_succ_eq_append_getElem h]; exact flatFrom_snoc 0 0 _ _
theorem flatFrom_app (a b : List Sg) (x y : Int) : ∃ c, flatFrom x y (a ++ b) = flatFrom x y a ++ c := by
  induction a generalizing x y with
  | nil => exact ⟨_, rfl⟩
  | cons s a ih =>
    obtain ⟨c, hc⟩ := ih s.x s.y
    exact ⟨c, by rw [List.cons_append, flatFrom, flatFrom, hc, List.append_assoc]⟩
theorem flatL_app (a b : List Sg) : ∃ c, flatL (a ++ b) = flatL a ++ c := flatFrom_app a b 0 0
theorem flatL_take_le (l : List Sg) (k : Nat) : (flatL (l.take k)).length ≤ (flatL l).length := by
  obtain ⟨c, hc⟩ := flatL_app (l.take k) (l.drop k)
  rw [List.take_append_drop] at hc
  rw [hc]; simp
theorem lastX_take (l : List Sg) (k : Nat) (h : k < l.length) : lastX (l.take (k + 1)) = l[k].x := by
  unfold lastX; rw [List.take_succ_eq_append_getElem h, List.getLast?_append]; simp
theorem lastY_take (l : List Sg) (k : Nat) (h : k < l.length) : lastY (l.take (k + 1)) = l[k].y := by
  unfold lastY; rw [List.take_succ_eq_append_getElem h, List.getLast?_append]; simp
theorem lns_le (e : Ed) : (lns e).length ≤ 128 := by
  rw [lns_len]
  cases h : edOK e
  · rw [cntI_no h]; decide
  · cases hb : e.bent
    · rw [cntI_flat h hb]; decide
    · have := cntI_bd h hb; omega
theorem flatSeg_le (x y : Int) (s : Sg) : (flatSeg x y s).length ≤ 128 := by
  unfold flatSeg; split
  · rw [List.length_map]; exact lns_le _
  · simp
theorem flatL_bd (l : List Sg) : (flatL l).length ≤ 128 * l.length := by
  have : ∀ x y, (flatFrom x y l).length ≤ 128 * l.length := by
    induction l with
    | nil => intro x y; simp [flatFrom]
    | cons s l ih =>
      intro x y
      rw [flatFrom, List.length_append, List.length_cons]
      have := flatSeg_le x y s
      have := ih s.x s.y
      omega
  exact this 0 0
theorem lns_straight (e : Ed) (hb : e.bent = true) (i : Nat) (hi : i < (lns e).length) : (lns e)[i].bent = false := by
  cases h : edOK e
  · have := lns_no h; simp [this] at hi
  · have hl := lns_yes h hb
    simp only [hl]
    simp [lnsTo]

theorem flatE_over {l : List Sg} {k : Nat} (hok : mayB l = true) (h : 300 < (flatL (l.take k)).length) : flatE l = ([], 5) := by
  have := flatL_take_le l k
  simp [flatE, hok]; omega
theorem flatE_le (l : List Sg) : (flatE l).1.length ≤ 300 := by
  unfold flatE; split
  · simp
  · split
    · simp
    · simp only; omega
theorem flatE_all {l : List Sg} (hok : mayB l = true) (h : (flatL l).length ≤ 300) : flatE l = (flatL l, 0) := by
  simp [flatE, hok]; omega
theorem flatSeg_bow {x y : Int} {s : Sg} (h : s.kind = 3) : flatSeg x y s = (lns ⟨x, y, true, s.cx, s.cy, s.x, s.y⟩).map lnSg := by simp [flatSeg, h]
theorem map_take_snoc {α β : Type} (f : α → β) (l : List α) (j : Nat) (h : j < l.length) : (l.take (j + 1)).map f = (l.take j).map f ++ [f l[j]] := by
  rw [List.take_succ_eq_append_getElem h, List.map_append]; rfl

end Go.Proofs.Ytbpeoejjjllieaa
