/- The plain side of layer 33: which points a stroke covers. -/
import Derived.Test.YtbbffeddlgfeiaaDashP
namespace Go.Proofs.Ytbbffeddlgfeiaa

/-- A style. -/
structure Sy where
  wide : Int
  cap : Int
  join : Int
deriving DecidableEq
/-- May a style be? -/
def mayS (s : Sy) : Bool := decide (0 ≤ s.wide) && decide (s.wide ≤ 2048) && decide (0 ≤ s.cap) && decide (s.cap ≤ 2) && decide (0 ≤ s.join) && decide (s.join ≤ 1)
theorem mayS_iff {s : Sy} : mayS s = true ↔ 0 ≤ s.wide ∧ s.wide ≤ 2048 ∧ 0 ≤ s.cap ∧ s.cap ≤ 2 ∧ 0 ≤ s.join ∧ s.join ≤ 1 := by
  simp only [mayS, Bool.and_eq_true, decide_eq_true_eq]; omega

/-- The sign of a number; of p + q times the root of d. -/
def sgnI (v : Int) : Int := if v < 0 then -1 else if 0 < v then 1 else 0
def rsgn (p q d : Int) : Int :=
  if sgnI p = 0 ∨ sgnI p = sgnI q * sgnI d then sgnI q * sgnI d else if sgnI q * sgnI d = 0 then sgnI p else sgnI p * sgnI (p * p - q * q * d)
theorem sgnI_cases (v : Int) : (v < 0 ∧ sgnI v = -1) ∨ (v = 0 ∧ sgnI v = 0) ∨ (0 < v ∧ sgnI v = 1) := by
  unfold sgnI; split
  · omega
  · split <;> omega
theorem rsgn_ge {p q d : Int} (hq : 0 ≤ q) (hd : 0 ≤ d) : 0 ≤ rsgn p q d ↔ 0 ≤ p ∨ p * p ≤ q * q * d := by
  have hpp : p ≠ 0 → 1 ≤ p * p := sq_pos
  have h0 : q = 0 → q * q * d = 0 := by rintro rfl; simp
  have h1 : d = 0 → q * q * d = 0 := by rintro rfl; simp
  unfold rsgn
  generalize p * p = P at *
  generalize q * q * d = Q at *
  rcases sgnI_cases p with ⟨a, a'⟩ | ⟨a, a'⟩ | ⟨a, a'⟩ <;> rcases sgnI_cases q with ⟨b, b'⟩ | ⟨b, b'⟩ | ⟨b, b'⟩ <;> rcases sgnI_cases d with ⟨c, c'⟩ | ⟨c, c'⟩ | ⟨c, c'⟩ <;>
    rcases sgnI_cases (P - Q) with ⟨e, e'⟩ | ⟨e, e'⟩ | ⟨e, e'⟩ <;> simp [a', b', c', e'] <;> omega
theorem rsgn_le {p q d : Int} (hq : q ≤ 0) (hd : 0 ≤ d) : rsgn p q d ≤ 0 ↔ p ≤ 0 ∨ p * p ≤ q * q * d := by
  have hpp : p ≠ 0 → 1 ≤ p * p := sq_pos
  have h0 : q = 0 → q * q * d = 0 := by rintro rfl; simp
  have h1 : d = 0 → q * q * d = 0 := by rintro rfl; simp
  unfold rsgn
  generalize p * p = P at *
  generalize q * q * d = Q at *
  rcases sgnI_cases p with ⟨a, a'⟩ | ⟨a, a'⟩ | ⟨a, a'⟩ <;> rcases sgnI_cases q with ⟨b, b'⟩ | ⟨b, b'⟩ | ⟨b, b'⟩ <;> rcases sgnI_cases d with ⟨c, c'⟩ | ⟨c, c'⟩ | ⟨c, c'⟩ <;>
    rcases sgnI_cases (P - Q) with ⟨e, e'⟩ | ⟨e, e'⟩ | ⟨e, e'⟩ <;> simp [a', b', c', e'] <;> omega

/-- A point seen from a piece: how far along it, how far off it. -/
def armU (e : Ed) (x y : Int) : Int := (x - e.x0) * (e.x1 - e.x0) + (y - e.y0) * (e.y1 - e.y0)
def armK (e : Ed) (x y : Int) : Int := (x - e.x0) * (e.y1 - e.y0) - (y - e.y0) * (e.x1 - e.x0)
/-- A piece covers a point; f, l: it has a square end at its beginning, at its end. -/
def PieceP (e : Ed) (w : Int) (f l : Bool) (x y : Int) : Prop :=
  4 * (armK e x y * armK e x y) ≤ w * w * sqE e ∧ (0 ≤ armU e x y ∨ (f = true ∧ 4 * (armU e x y * armU e x y) ≤ w * w * sqE e)) ∧
    (armU e x y ≤ sqE e ∨ (l = true ∧ 4 * ((armU e x y - sqE e) * (armU e x y - sqE e)) ≤ w * w * sqE e))
/-- A disc, a square round a point. -/
def DiscP (a b w x y : Int) : Prop := 4 * ((x - a) * (x - a) + (y - b) * (y - b)) ≤ w * w
def SquareP (a b w x y : Int) : Prop := max (2 * (x - a)) (-2 * (x - a)) ≤ w ∧ max (2 * (y - b)) (-2 * (y - b)) ≤ w
instance (e : Ed) (w : Int) (f l : Bool) (x y : Int) : Decidable (PieceP e w f l x y) := by unfold PieceP; infer_instance
instance (a b w x y : Int) : Decidable (DiscP a b w x y) := by unfold DiscP; infer_instance
instance (a b w x y : Int) : Decidable (SquareP a b w x y) := by unfold SquareP; infer_instance

/-- What covers points. -/
inductive Shp where
  | pc (e : Ed) (w : Int) (f l : Bool)
  | disc (a b w : Int)
  | sq (a b w : Int)
def covS : Shp → Int → Int → Bool
  | .pc e w f l, x, y => decide (PieceP e w f l x y)
  | .disc a b w, x, y => decide (DiscP a b w x y)
  | .sq a b w, x, y => decide (SquareP a b w x y)

/-- The shapes of the k-th piece. -/
def shAt (shut : Bool) (s : Sy) (ps : List Ed) (k : Nat) (e : Ed) : List Shp :=
  .pc e s.wide (decide (k = 0) && !shut && decide (s.cap = 2)) (decide (k + 1 = ps.length) && !shut && decide (s.cap = 2)) ::
    ((if (decide (k = 0) && !shut && decide (s.cap = 1)) || (!(decide (k = 0) && !shut) && decide (s.join = 1)) then [.disc e.x0 e.y0 s.wide] else []) ++
     (if decide (k + 1 = ps.length) && !shut && decide (s.cap = 1) then [.disc e.x1 e.y1 s.wide] else []))
/-- The shapes of the first k pieces. -/
def shTo (shut : Bool) (s : Sy) (ps : List Ed) : Nat → List Shp
  | 0 => []
  | k + 1 => shTo shut s ps k ++ match ps[k]? with | some e => shAt shut s ps k e | none => []
theorem shTo_succ (shut : Bool) (s : Sy) (ps : List Ed) (k : Nat) (h : k < ps.length) : shTo shut s ps (k + 1) = shTo shut s ps k ++ shAt shut s ps k ps[k] := by
  simp only [shTo, List.getElem?_eq_getElem h]
/-- The shapes of a dot; of a contour; of a path. -/
def dotS (c : Ct) (s : Sy) : List Shp := if s.cap = 1 then [.disc c.x c.y s.wide] else if s.cap = 2 then [.sq c.x c.y s.wide] else []
def shpC (s : Sy) (c : Ct) : List Shp :=
  if (piecesC c).length = 0 then (if 0 < c.es.length ∨ c.shut = true then dotS c s else []) else shTo c.shut s (piecesC c) (piecesC c).length
def shL (l : List Sg) (s : Sy) : List Shp := (ctsL l).flatMap (shpC s)
/-- Is a path without bows? -/
def plainB (l : List Sg) : Bool := l.all (fun s => !(s.kind == 3)) && mayB l
/-- Does a stroke cover a point? -/
def covL (l : List Sg) (s : Sy) (x y : Int) : Bool := (shL l s).any fun h => covS h x y
def inL (l : List Sg) (s : Sy) (x y : Int) : Bool := plainB l && mayS s && co x && co y && covL l s x y

theorem shAt_len (shut : Bool) (s : Sy) (ps : List Ed) (k : Nat) (e : Ed) : 1 ≤ (shAt shut s ps k e).length ∧ (shAt shut s ps k e).length ≤ 3 := by
  unfold shAt
  rw [List.length_cons, List.length_append]
  split <;> split <;> simp
theorem shTo_len (shut : Bool) (s : Sy) (ps : List Ed) : ∀ k, k ≤ ps.length → (shTo shut s ps k).length ≤ 3 * k
  | 0, _ => by simp [shTo]
  | k + 1, h => by
    have := shTo_len shut s ps k (by omega)
    have := (shAt_len shut s ps k ps[k]).2
    rw [shTo_succ shut s ps k h, List.length_append]; omega
theorem dotS_len (c : Ct) (s : Sy) : (dotS c s).length ≤ 1 := by
  unfold dotS; split
  · simp
  · split <;> simp
theorem shC_len (s : Sy) (c : Ct) : (shpC s c).length ≤ 3 * (piecesC c).length + 1 := by
  unfold shpC
  split
  · split
    · have := dotS_len c s; omega
    · simp
  · have := shTo_len c.shut s (piecesC c) (piecesC c).length (Nat.le_refl _); omega
/-- Which points a contour covers, told without lists. -/
theorem mem_shTo (shut : Bool) (s : Sy) (ps : List Ed) (h : Shp) : ∀ k, k ≤ ps.length → (h ∈ shTo shut s ps k ↔ ∃ (i : Nat) (hi : i < ps.length), i < k ∧ h ∈ shAt shut s ps i ps[i])
  | 0, _ => by simp [shTo]
  | k + 1, hk => by
    rw [shTo_succ shut s ps k hk, List.mem_append, mem_shTo shut s ps h k (by omega)]
    constructor
    · rintro (⟨i, hi, hlt, hm⟩ | hm)
      · exact ⟨i, hi, by omega, hm⟩
      · exact ⟨k, hk, by omega, hm⟩
    · rintro ⟨i, hi, hlt, hm⟩
      rcases Nat.lt_or_ge i k with h1 | h1
      · exact .inl ⟨i, hi, h1, hm⟩
      · obtain rfl : i = k := by omega
        exact .inr hm
end Go.Proofs.Ytbbffeddlgfeiaa
