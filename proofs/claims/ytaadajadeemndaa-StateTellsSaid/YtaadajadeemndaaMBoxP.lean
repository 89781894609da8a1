/- The plain side of Box. -/
import Derived.Test.YtaadajadeemndaaAllP
namespace Go.Proofs.Ytaadajadeemndaa

structure Bx where
  x0 : Int
  y0 : Int
  x1 : Int
  y1 : Int
deriving DecidableEq, Inhabited

def loI (a x : Int) : Int := if x < a then x else a
def hiI (a x : Int) : Int := if a < x then x else a
/-- A box, wide enough for a point. -/
def wid (b : Bx) (x y : Int) : Bx := ⟨loI b.x0 x, loI b.y0 y, hiI b.x1 x, hiI b.y1 y⟩
def boxStep (b : Bx) (s : Sg) : Bx := if s.kind = 4 then b else wid (if s.kind = 3 then wid b s.cx s.cy else b) s.x s.y
/-- The box of a path; is there one? -/
def boxFrom (l : List Sg) : Bx := match l with | [] => ⟨0, 0, 0, 0⟩ | s :: l => (s :: l).foldl boxStep ⟨s.x, s.y, s.x, s.y⟩
def boxL (l : List Sg) : Bx × Bool := if l = [] ∨ mayB l = false then (⟨0, 0, 0, 0⟩, false) else (boxFrom l, true)

theorem fold_take {α β : Type} (f : β → α → β) (b : β) (l : List α) (k : Nat) (h : k < l.length) : (l.take (k + 1)).foldl f b = f ((l.take k).foldl f b) l[k] := by
  rw [List.take_succ_eq_append_getElem h, List.foldl_append]; rfl
theorem boxFrom_get (l : List Sg) (h : 0 < l.length) : boxFrom l = l.foldl boxStep ⟨l[0].x, l[0].y, l[0].x, l[0].y⟩ := by
  cases l with
  | nil => simp at h
  | cons s l => rfl

end Go.Proofs.Ytaadajadeemndaa

namespace Go.Proofs.Ytaadajadeemndaa

def rcX (u wd : Int) (k : Nat) : Int := if k = 1 ∨ k = 2 then u + wd else u
def rcY (v ht : Int) (k : Nat) : Int := if 2 ≤ k then v + ht else v
/-- What goes wrong at the k-th point; F: a point's place, its error. -/
def rcE (F : Int → Int → Int × Int × Int) (u v wd ht : Int) (k : Nat) : Int :=
  if (decide (0 < k) && !fixB (u + wd)) || (decide (1 < k) && !fixB (v + ht)) then 2 else (F (rcX u wd k) (rcY v ht k)).2.2
def rcSeg (F : Int → Int → Int × Int × Int) (u v wd ht : Int) (k : Nat) : Sg := ⟨if k = 0 then 1 else 2, (F (rcX u wd k) (rcY v ht k)).1, (F (rcX u wd k) (rcY v ht k)).2.1, 0, 0⟩
def rcL (F : Int → Int → Int × Int × Int) (u v wd ht : Int) (n : Nat) : List Sg := (List.range n).map (rcSeg F u v wd ht)
/-- The first of four that is not 0. -/
def firstE (e : Nat → Int) : Int := if e 0 ≠ 0 then e 0 else if e 1 ≠ 0 then e 1 else if e 2 ≠ 0 then e 2 else e 3
theorem firstE_at {e : Nat → Int} {i : Nat} (hi : i < 4) (h : ∀ k, k < i → e k = 0) (he : e i ≠ 0) : firstE e = e i := by
  have hc : i = 0 ∨ i = 1 ∨ i = 2 ∨ i = 3 := by omega
  unfold firstE
  rcases hc with rfl | rfl | rfl | rfl
  · rw [if_pos he]
  · rw [if_neg (by simp [h 0]), if_pos he]
  · rw [if_neg (by simp [h 0]), if_neg (by simp [h 1]), if_pos he]
  · rw [if_neg (by simp [h 0]), if_neg (by simp [h 1]), if_neg (by simp [h 2])]
theorem firstE_none {e : Nat → Int} (h : ∀ k, k < 4 → e k = 0) : firstE e = 0 := by
  unfold firstE
  rw [if_neg (by simp [h 0]), if_neg (by simp [h 1]), if_neg (by simp [h 2])]
  exact h 3 (by omega)
theorem rcL_len (F : Int → Int → Int × Int × Int) (u v wd ht : Int) (n : Nat) : (rcL F u v wd ht n).length = n := by simp [rcL]
theorem rcL_succ (F : Int → Int → Int × Int × Int) (u v wd ht : Int) (n : Nat) : rcL F u v wd ht (n + 1) = rcL F u v wd ht n ++ [rcSeg F u v wd ht n] := by
  simp [rcL, List.range_succ]
theorem co_mk {z : Int} (h : -8191 ≤ z ∧ z ≤ 8191) : co z = true := by simp [co]; exact h
section
variable {F : Int → Int → Int × Int × Int} {u v wd ht : Int} (hF : ∀ a b, -8191 ≤ (F a b).1 ∧ (F a b).1 ≤ 8191 ∧ -8191 ≤ (F a b).2.1 ∧ (F a b).2.1 ≤ 8191)
include hF
theorem rc_co (k : Nat) : co (rcSeg F u v wd ht k).x = true ∧ co (rcSeg F u v wd ht k).y = true := by
  obtain ⟨h1, h2, h3, h4⟩ := hF (rcX u wd k) (rcY v ht k)
  exact ⟨co_mk ⟨h1, h2⟩, co_mk ⟨h3, h4⟩⟩
theorem rc_start : startL [] (rcSeg F u v wd ht 0).x (rcSeg F u v wd ht 0).y = (rcL F u v wd ht 1, 0) := by
  obtain ⟨x0, y0⟩ := rc_co (u := u) (v := v) (wd := wd) (ht := ht) hF 0
  have e1 : rcL F u v wd ht 1 = [rcSeg F u v wd ht 0] := rfl
  have k0 : (rcSeg F u v wd ht 0) = ⟨1, (rcSeg F u v wd ht 0).x, (rcSeg F u v wd ht 0).y, 0, 0⟩ := rfl
  rw [e1]
  generalize rcSeg F u v wd ht 0 = s0 at *
  rw [k0]
  simp [startL, mayB, mayFrom, nearB, x0, y0, lastK, longL]
theorem rc_on (i : Nat) (h0 : 0 < i) (h4 : i < 4) : onL (rcL F u v wd ht i) ⟨2, (rcSeg F u v wd ht i).x, (rcSeg F u v wd ht i).y, 0, 0⟩ = (rcL F u v wd ht (i + 1), 0) := by
  obtain ⟨x0, y0⟩ := rc_co (u := u) (v := v) (wd := wd) (ht := ht) hF 0
  obtain ⟨x1, y1⟩ := rc_co (u := u) (v := v) (wd := wd) (ht := ht) hF 1
  obtain ⟨x2, y2⟩ := rc_co (u := u) (v := v) (wd := wd) (ht := ht) hF 2
  obtain ⟨x3, y3⟩ := rc_co (u := u) (v := v) (wd := wd) (ht := ht) hF 3
  have c0 : co 0 = true := by decide
  have e1 : rcL F u v wd ht 1 = [rcSeg F u v wd ht 0] := rfl
  have e2 : rcL F u v wd ht 2 = [rcSeg F u v wd ht 0, rcSeg F u v wd ht 1] := rfl
  have e3 : rcL F u v wd ht 3 = [rcSeg F u v wd ht 0, rcSeg F u v wd ht 1, rcSeg F u v wd ht 2] := rfl
  have e4 : rcL F u v wd ht 4 = [rcSeg F u v wd ht 0, rcSeg F u v wd ht 1, rcSeg F u v wd ht 2, rcSeg F u v wd ht 3] := rfl
  have k0 : (rcSeg F u v wd ht 0) = ⟨1, (rcSeg F u v wd ht 0).x, (rcSeg F u v wd ht 0).y, 0, 0⟩ := rfl
  have k1 : (rcSeg F u v wd ht 1) = ⟨2, (rcSeg F u v wd ht 1).x, (rcSeg F u v wd ht 1).y, 0, 0⟩ := rfl
  have k2 : (rcSeg F u v wd ht 2) = ⟨2, (rcSeg F u v wd ht 2).x, (rcSeg F u v wd ht 2).y, 0, 0⟩ := rfl
  have k3 : (rcSeg F u v wd ht 3) = ⟨2, (rcSeg F u v wd ht 3).x, (rcSeg F u v wd ht 3).y, 0, 0⟩ := rfl
  have hc : i = 1 ∨ i = 2 ∨ i = 3 := by omega
  rcases hc with rfl | rfl | rfl
  · rw [e1, e2]
    generalize rcSeg F u v wd ht 0 = s0 at *
    generalize rcSeg F u v wd ht 1 = s1 at *
    rw [k0, k1]
    simp [onL, mayB, mayFrom, rightB, nearB, x0, y0, x1, y1, c0, lastK, longL]
  · rw [e2, e3]
    generalize rcSeg F u v wd ht 0 = s0 at *
    generalize rcSeg F u v wd ht 1 = s1 at *
    generalize rcSeg F u v wd ht 2 = s2 at *
    rw [k0, k1, k2]
    simp [onL, mayB, mayFrom, rightB, nearB, x0, y0, x1, y1, x2, y2, c0, lastK, longL]
  · rw [e3, e4]
    generalize rcSeg F u v wd ht 0 = s0 at *
    generalize rcSeg F u v wd ht 1 = s1 at *
    generalize rcSeg F u v wd ht 2 = s2 at *
    generalize rcSeg F u v wd ht 3 = s3 at *
    rw [k0, k1, k2, k3]
    simp [onL, mayB, mayFrom, rightB, nearB, x0, y0, x1, y1, x2, y2, x3, y3, c0, lastK, longL]
theorem rc_shut : shutL (rcL F u v wd ht 4) = (rcL F u v wd ht 4 ++ [⟨4, 0, 0, 0, 0⟩], 0) := by
  obtain ⟨x0, y0⟩ := rc_co (u := u) (v := v) (wd := wd) (ht := ht) hF 0
  obtain ⟨x1, y1⟩ := rc_co (u := u) (v := v) (wd := wd) (ht := ht) hF 1
  obtain ⟨x2, y2⟩ := rc_co (u := u) (v := v) (wd := wd) (ht := ht) hF 2
  obtain ⟨x3, y3⟩ := rc_co (u := u) (v := v) (wd := wd) (ht := ht) hF 3
  have c0 : co 0 = true := by decide
  have e4 : rcL F u v wd ht 4 = [rcSeg F u v wd ht 0, rcSeg F u v wd ht 1, rcSeg F u v wd ht 2, rcSeg F u v wd ht 3] := rfl
  have k0 : (rcSeg F u v wd ht 0) = ⟨1, (rcSeg F u v wd ht 0).x, (rcSeg F u v wd ht 0).y, 0, 0⟩ := rfl
  have k1 : (rcSeg F u v wd ht 1) = ⟨2, (rcSeg F u v wd ht 1).x, (rcSeg F u v wd ht 1).y, 0, 0⟩ := rfl
  have k2 : (rcSeg F u v wd ht 2) = ⟨2, (rcSeg F u v wd ht 2).x, (rcSeg F u v wd ht 2).y, 0, 0⟩ := rfl
  have k3 : (rcSeg F u v wd ht 3) = ⟨2, (rcSeg F u v wd ht 3).x, (rcSeg F u v wd ht 3).y, 0, 0⟩ := rfl
  rw [e4]
  generalize rcSeg F u v wd ht 0 = s0 at *
  generalize rcSeg F u v wd ht 1 = s1 at *
  generalize rcSeg F u v wd ht 2 = s2 at *
  generalize rcSeg F u v wd ht 3 = s3 at *
  rw [k0, k1, k2, k3]
  simp [shutL, mayB, mayFrom, rightB, nearB, x0, y0, x1, y1, x2, y2, x3, y3, c0, lastK, longL]
end
end Go.Proofs.Ytaadajadeemndaa

namespace Go.Proofs.Ytaadajadeemndaa

def cornX (b : Bx) (k : Nat) : Int := if k = 1 ∨ k = 3 then b.x1 else b.x0
def cornY (b : Bx) (k : Nat) : Int := if 2 ≤ k then b.y1 else b.y0
/-- The box of points, the first of so many and one more. -/
def bxAcc (G : Nat → Int × Int × Int) : Nat → Bx
  | 0 => ⟨(G 0).1, (G 0).2.1, (G 0).1, (G 0).2.1⟩
  | k + 1 => wid (bxAcc G k) (G (k + 1)).1 (G (k + 1)).2.1
theorem wid_one (u v : Int) : wid ⟨u, v, u, v⟩ u v = ⟨u, v, u, v⟩ := by simp [wid, loI, hiI]
theorem wid_big (u v : Int) (hu : -1073741823 ≤ u ∧ u ≤ 1073741823) (hv : -1073741823 ≤ v ∧ v ≤ 1073741823) : wid ⟨1099511627776, 1099511627776, -1099511627776, -1099511627776⟩ u v = ⟨u, v, u, v⟩ := by
  unfold wid loI hiI
  rw [if_pos (by simp only; omega), if_pos (by simp only; omega), if_pos (by simp only; omega), if_pos (by simp only; omega)]
end Go.Proofs.Ytaadajadeemndaa
