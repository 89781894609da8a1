/- Fonts, plainly: letters one behind the other. -/
import Derived.Test.YtdfkbbcoolgfiaaGreatMat4
import Derived.Test.YtdfkbbcoolgfiaaGreatMMul
import Derived.Test.YtdfkbbcoolgfiaaGreatGlyph1
import Derived.Test.YtdfkbbcoolgfiaaGreatAllP
namespace Go.Proofs.YtdfkbbcoolgfiaaGreat

/-- A letter: its name, its program. -/
structure Le where
  name : ByteArray
  prog : ByteArray
/-- How much nearer b stands behind a. -/
structure Pr where
  a : ByteArray
  b : ByteArray
  mv : Int
structure Fo where
  m : Mt
  names : List ByteArray
  lets : List Le
  kern : List Pr
def leB (pre : List Le) (x : Le) : Bool := !(pre.any fun y => decide (y.name = x.name)) && !(decide (x.name = ByteArray.empty)) && decide (x.name.size ≤ 100) && decide (x.prog.size ≤ 600)
def bookTo (l : List Le) : Nat → Bool
  | 0 => true
  | k + 1 => bookTo l k && (match l[k]? with | none => true | some x => leB (l.take k) x)
def bookB (l : List Le) : Bool := bookTo l l.length
def openB (F : Fo) : Bool := mtB F.m && decide (F.names.length ≤ 256) && decide (F.lets.length ≤ 256) && decide (F.kern.length ≤ 256) && F.kern.all (fun k => decide (-8191 ≤ k.mv) && decide (k.mv ≤ 8191)) && bookB F.lets
def nameF (F : Fo) (c : Nat) : ByteArray := F.names.getD c ByteArray.empty
def letF (F : Fo) (n : ByteArray) : Option Le := F.lets.find? fun x => decide (x.name = n)
def kernF (F : Fo) (a b : Nat) : Int :=
  if decide (nameF F a = ByteArray.empty) || decide (nameF F b = ByteArray.empty) then 0 else ((F.kern.find? fun k => decide (k.a = nameF F a) && decide (k.b = nameF F b)).map Pr.mv).getD 0
def runF (F : Fo) (c : Nat) : (List Sg × Int) × Int :=
  match letF F (nameF F c) with
  | none => (([], 0), 16)
  | some x => if (RunG (bl x.prog)).2 = 0 then RunG (bl x.prog) else (([], 0), 16)
def wideF (F : Fo) (c : Nat) : Int × Int := if openB F then ((runF F c).1.2, (runF F c).2) else (0, 1)
def moveM (x y : Int) : Mt := ⟨65536, 0, 0, 65536, x, y⟩
def aimM (m : Mt) (x y : Int) : Int × Int × Int :=
  if mtB m && fixB x && fixB y then nearP (rndM 65536 32768 (m.a * x + m.c * y)) (rndM 65536 32768 (m.b * x + m.d * y)) 1073741823 else (0, 0, 1)
/-- A piece by a matrix. -/
def plS (M : Mt) (s : Sg) : Sg × Int :=
  if s.kind = 3 then
    (if (pointM M (s.cx * 65536) (s.cy * 65536)).2.2 ≠ 0 then (s, (pointM M (s.cx * 65536) (s.cy * 65536)).2.2)
     else (⟨s.kind, (pointM M (s.x * 65536) (s.y * 65536)).1, (pointM M (s.x * 65536) (s.y * 65536)).2.1, (pointM M (s.cx * 65536) (s.cy * 65536)).1, (pointM M (s.cx * 65536) (s.cy * 65536)).2.1⟩, (pointM M (s.x * 65536) (s.y * 65536)).2.2))
  else if s.kind = 4 then (s, 0)
  else (⟨s.kind, (pointM M (s.x * 65536) (s.y * 65536)).1, (pointM M (s.x * 65536) (s.y * 65536)).2.1, s.cx, s.cy⟩, (pointM M (s.x * 65536) (s.y * 65536)).2.2)
def plL (M : Mt) (out : List Sg) : List Sg → List Sg × Int
  | [] => (out, 0)
  | s :: l => if (plS M s).2 ≠ 0 then ([], (plS M s).2) else plL M (out ++ [(plS M s).1]) l
/-- A path of letter units, by matrices. -/
def placeF (F : Fo) (m : Mt) (x y : Int) (l : List Sg) : List Sg × Int :=
  if (mulB (moveM x y) m).2 ≠ 0 then ([], (mulB (moveM x y) m).2)
  else if (mulB F.m (mulB (moveM x y) m).1).2 ≠ 0 then ([], (mulB F.m (mulB (moveM x y) m).1).2)
  else plL (mulB F.m (mulB (moveM x y) m).1).1 [] l
def fairF (F : Fo) (m : Mt) (x y : Int) : Bool := openB F && mtB m && fixB x && fixB y
def pathF (F : Fo) (m : Mt) (x y : Int) (c : Nat) : List Sg × Int :=
  if fairF F m x y then (if (runF F c).2 ≠ 0 then ([], (runF F c).2) else placeF F m x y (runF F c).1.1) else ([], 1)
/-- How far a letter goes on. -/
def stepF (F : Fo) (c : Nat) (s : List Nat) : Int := (runF F c).1.2 + (match s with | [] => 0 | d :: _ => kernF F c d)
def outS (F : Fo) (m : Mt) (l : List Sg) (x y : Int) : List Nat → (List Sg × Int × Int) × Int
  | [] => ((l, x, y), 0)
  | c :: s =>
    if (runF F c).2 ≠ 0 then (([], 0, 0), (runF F c).2)
    else if (placeF F m x y (runF F c).1.1).2 ≠ 0 then (([], 0, 0), (placeF F m x y (runF F c).1.1).2)
    else if (joinL l (placeF F m x y (runF F c).1.1).1).2 ≠ 0 then (([], 0, 0), (joinL l (placeF F m x y (runF F c).1.1).1).2)
    else if (aimM F.m (stepF F c s * 65536) 0).2.2 ≠ 0 then (([], 0, 0), (aimM F.m (stepF F c s * 65536) 0).2.2)
    else if (fixB (x + (aimM F.m (stepF F c s * 65536) 0).1) && fixB (y + (aimM F.m (stepF F c s * 65536) 0).2.1)) = false then (([], 0, 0), 2)
    else outS F m (joinL l (placeF F m x y (runF F c).1.1).1).1 (x + (aimM F.m (stepF F c s * 65536) 0).1) (y + (aimM F.m (stepF F c s * 65536) 0).2.1) s
def outF (F : Fo) (m : Mt) (x y : Int) (s : List Nat) : (List Sg × Int × Int) × Int := if fairF F m x y then outS F m [] x y s else (([], 0, 0), 1)
end Go.Proofs.YtdfkbbcoolgfiaaGreat
