/- The plain side of Box. -/
import Derived.Test.YtbbffeddlgfeiaaAddP
namespace Go.Proofs.Ytbbffeddlgfeiaa

structure Bx where
  x0 : Int
  y0 : Int
  x1 : Int
  y1 : Int
deriving DecidableEq, Inhabited

def loI (a x : Int) : Int := if x < a then x else a
def hiI (a x : Int) : Int := if a < x then x else a
/-- A box, wide enough for a point. -/
def wid (b : Bx) (x y : Int) : Bx := ⟨loI b.x0 x, loI b.y0 y, hiI b.x1 x, hiI b.y1 y⟩
def boxStep (b : Bx) (s : Sg) : Bx := if s.kind = 4 then b else wid (if s.kind = 3 then wid b s.cx s.cy else b) s.x s.y
/-- The box of a path; is there one? -/
def boxFrom (l : List Sg) : Bx := match l with | [] => ⟨0, 0, 0, 0⟩ | s :: l => (s :: l).foldl boxStep ⟨s.x, s.y, s.x, s.y⟩
def boxL (l : List Sg) : Bx × Bool := if l = [] ∨ mayB l = false then (⟨0, 0, 0, 0⟩, false) else (boxFrom l, true)

theorem fold_take {α β : Type} (f : β → α → β) (b : β) (l : List α) (k : Nat) (h : k < l.length) : (l.take (k + 1)).foldl f b = f ((l.take k).foldl f b) l[k] := by
  rw [List.take_succ_eq_append_getElem h, List.foldl_append]; rfl
theorem boxFrom_get (l : List Sg) (h : 0 < l.length) : boxFrom l = l.foldl boxStep ⟨l[0].x, l[0].y, l[0].x, l[0].y⟩ := by
  cases l with
  | nil => simp at h
  | cons s l => rfl

end Go.Proofs.Ytbbffeddlgfeiaa
