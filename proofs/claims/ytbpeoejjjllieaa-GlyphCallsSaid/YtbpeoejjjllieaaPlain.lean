/- The plain side of the path layers: lists of pieces and edges, and what the program's functions compute on them. No program in sight. -/
namespace Go.Proofs.Ytbpeoejjjllieaa

/-- A piece of a path. -/
structure Sg where
  kind : Int
  x : Int
  y : Int
  cx : Int
  cy : Int
deriving DecidableEq, Inhabited

/-- An edge. -/
structure Ed where
  x0 : Int
  y0 : Int
  bent : Bool
  cx : Int
  cy : Int
  x1 : Int
  y1 : Int
deriving DecidableEq, Inhabited

/-- Is a number a coordinate? -/
def co (v : Int) : Bool := decide (-8191 ≤ v) && decide (v ≤ 8191)
/-- Are all? -/
def nearB (l : List Int) : Bool := l.all co

/-- May an edge be? -/
def edOK (e : Ed) : Bool := nearB [e.x0, e.y0, e.cx, e.cy, e.x1, e.y1] && (e.bent || (e.cx == 0 && e.cy == 0))

/-- May a piece be, behind one of some kind (0: none)? -/
def rightB (s : Sg) (last : Int) : Bool :=
  nearB [s.x, s.y, s.cx, s.cy] && (s.kind == 3 || (s.cx == 0 && s.cy == 0)) &&
    ((s.kind == 1 && last != 1) || (s.kind == 4 && last != 0 && last != 4 && s.x == 0 && s.y == 0) || ((s.kind == 2 || s.kind == 3) && last != 0 && last != 4))
/-- May pieces be, behind one of some kind? -/
def mayFrom : Int → List Sg → Bool
  | _, [] => true
  | last, s :: l => rightB s last && mayFrom s.kind l
/-- May pieces be? -/
def mayB (l : List Sg) : Bool := decide (l.length ≤ 300) && mayFrom 0 l
/-- The kind of the last piece; 0: there is none. -/
def lastK (l : List Sg) : Int := (l.getLast?.map Sg.kind).getD 0

end Go.Proofs.Ytbpeoejjjllieaa
