/- The plain side of Shift. -/
import Derived.Test.YtpompbpdhahljaaAddP
import Derived.Test.YtpompbpdhahljaaBoxP
namespace Go.Proofs.Ytpompbpdhahljaa

/-- A piece moved: f to the one side, g to the other. -/
def shS (f g : Int → Int) (s : Sg) : Sg := if s.kind = 4 then s else ⟨s.kind, f s.x, g s.y, if s.kind = 3 then f s.cx else s.cx, if s.kind = 3 then g s.cy else s.cy⟩
def okS (s : Sg) : Bool := nearB [s.x, s.y, s.cx, s.cy]
def shiftL (f g : Int → Int) (l : List Sg) : List Sg × Int :=
  if mayB l = false then ([], 1) else if (l.map (shS f g)).all okS then (l.map (shS f g), 0) else ([], 2)

theorem shiftL_not {f g : Int → Int} {l : List Sg} {k : Nat} (hm : mayB l = true) (hk : k < l.length) (h : okS (shS f g l[k]) = false) : shiftL f g l = ([], 2) := by
  unfold shiftL
  rw [hm, if_neg (by decide), if_neg]
  intro ha
  rw [List.all_eq_true] at ha
  have := ha (shS f g l[k]) (List.mem_map.2 ⟨_, List.getElem_mem hk, rfl⟩)
  rw [h] at this; cases this
theorem shiftL_all {f g : Int → Int} {l : List Sg} (hm : mayB l = true) (h : (l.map (shS f g)).all okS = true) : shiftL f g l = (l.map (shS f g), 0) := by
  unfold shiftL
  rw [hm, if_neg (by decide), if_pos h]
theorem sh_take {f g : Int → Int} {l : List Sg} {k : Nat} (hk : k < l.length) : (l.take (k + 1)).map (shS f g) = (l.take k).map (shS f g) ++ [shS f g l[k]] := by
  rw [List.take_succ_eq_append_getElem hk, List.map_append, List.map_singleton]
theorem sh_all {f g : Int → Int} {l : List Sg} {k : Nat} (hk : k < l.length) (h : ((l.take k).map (shS f g)).all okS = true) (h1 : okS (shS f g l[k]) = true) : ((l.take (k + 1)).map (shS f g)).all okS = true := by
  rw [sh_take hk, List.all_append, h]; simp [h1]

end Go.Proofs.Ytpompbpdhahljaa
