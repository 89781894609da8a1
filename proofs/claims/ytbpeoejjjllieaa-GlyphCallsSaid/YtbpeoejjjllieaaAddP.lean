/- The plain side of what adds to a path: longer, Point, Start, Line, Bow, Shut, Join. -/
import Derived.Test.YtbpeoejjjllieaaCtP
import Derived.Test.YtbpeoejjjllieaaFlatLP
namespace Go.Proofs.Ytbpeoejjjllieaa

/-- A path and more, or the error. -/
def longL (l m : List Sg) : List Sg × Int := if 300 < l.length + m.length then ([], 5) else (l ++ m, 0)
/-- Where the last Move goes; 0, 0: there is none. -/
def lastMv (l : List Sg) : Int × Int := ((l.reverse.find? fun s => s.kind == 1).map fun s => (s.x, s.y)).getD (0, 0)
/-- Where a path is. -/
def ptL (l : List Sg) : Int × Int × Bool :=
  if l = [] ∨ mayB l = false then (0, 0, false) else if lastK l = 4 then ((lastMv l).1, (lastMv l).2, true) else (lastX l, lastY l, true)
def startL (l : List Sg) (x y : Int) : List Sg × Int :=
  if mayB l = false then ([], 1) else if nearB [x, y] = false then ([], 2) else longL (if lastK l = 1 then l.dropLast else l) [⟨1, x, y, 0, 0⟩]
def onL (l : List Sg) (s : Sg) : List Sg × Int :=
  if mayB l = false then ([], 1) else if l = [] then ([], 13) else if nearB [s.x, s.y, s.cx, s.cy] = false then ([], 2)
  else if lastK l = 4 then longL l [⟨1, (ptL l).1, (ptL l).2.1, 0, 0⟩, s] else longL l [s]
def shutL (l : List Sg) : List Sg × Int :=
  if mayB l = false then ([], 1) else if l = [] ∨ lastK l = 4 then longL l [] else longL l [⟨4, 0, 0, 0, 0⟩]
def joinL (l m : List Sg) : List Sg × Int :=
  if mayB l = false ∨ mayB m = false then ([], 1) else longL (if lastK l = 1 ∧ m ≠ [] then l.dropLast else l) m

theorem longL_len (l m : List Sg) : (longL l m).1.length ≤ 300 := by
  unfold longL; split
  · simp
  · simp only [List.length_append]; omega
theorem last_get {l : List Sg} (h : l.length - 1 < l.length) : lastK l = l[l.length - 1].kind ∧ lastX l = l[l.length - 1].x ∧ lastY l = l[l.length - 1].y := by
  unfold lastK lastX lastY
  rw [List.getLast?_eq_getElem?, List.getElem?_eq_getElem h]; exact ⟨rfl, rfl, rfl⟩
theorem lastMv_take {l : List Sg} {i : Nat} (h : i < l.length) : lastMv (l.take (i + 1)) = if l[i].kind = 1 then (l[i].x, l[i].y) else lastMv (l.take i) := by
  unfold lastMv
  rw [List.take_succ_eq_append_getElem h, List.reverse_append, List.reverse_singleton, List.singleton_append, List.find?_cons]
  by_cases hk : l[i].kind = 1
  · simp [hk]
  · have hb : (l[i].kind == 1) = false := by simpa using hk
    rw [if_neg hk]
    simp only [hb]
theorem may_first {l : List Sg} (h : mayB l = true) (h0 : 0 < l.length) : l[0].kind = 1 := by
  apply Classical.byContradiction
  intro hn
  have h1 := (mayB_from h).1
  cases l with
  | nil => simp at h0
  | cons s l =>
    simp only [mayFrom, Bool.and_eq_true] at h1
    have := rightB_iff.1 h1.1
    simp only [List.getElem_cons_zero] at hn
    rcases this.2 with ⟨a, _⟩ | ⟨_, b, _⟩
    · exact hn a
    · exact b rfl

end Go.Proofs.Ytbpeoejjjllieaa
