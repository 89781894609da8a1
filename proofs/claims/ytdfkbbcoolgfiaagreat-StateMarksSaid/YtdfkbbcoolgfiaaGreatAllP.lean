/- All that is plain: no program in sight. -/
import Derived.WalkKit
import Derived.WalkSpells
import Derived.WalkLawsBesides
import Derived.Lib.Hide
import Derived.Deep.QuietTactic
import Derived.BigQuiet
import Derived.Deep.Light
import Derived.Maps.AppendAt
import Derived.Deep.RegionLaw
import Derived.Deep.RegionHeld3
import Derived.Deep.DrawnRows
/- The plain side of the path layers: lists of pieces and edges, and what the program's functions compute on them. No program in sight. -/
namespace Go.Proofs.YtdfkbbcoolgfiaaGreat

/-- A piece of a path. -/
structure Sg where
  kind : Int
  x : Int
  y : Int
  cx : Int
  cy : Int
deriving DecidableEq, Inhabited

/-- An edge. -/
structure Ed where
  x0 : Int
  y0 : Int
  bent : Bool
  cx : Int
  cy : Int
  x1 : Int
  y1 : Int
deriving DecidableEq, Inhabited

/-- Is a number a coordinate? -/
def co (v : Int) : Bool := decide (-8191 ≤ v) && decide (v ≤ 8191)
/-- Are all? -/
def nearB (l : List Int) : Bool := l.all co

/-- May an edge be? -/
def edOK (e : Ed) : Bool := nearB [e.x0, e.y0, e.cx, e.cy, e.x1, e.y1] && (e.bent || (e.cx == 0 && e.cy == 0))

/-- May a piece be, behind one of some kind (0: none)? -/
def rightB (s : Sg) (last : Int) : Bool :=
  nearB [s.x, s.y, s.cx, s.cy] && (s.kind == 3 || (s.cx == 0 && s.cy == 0)) &&
    ((s.kind == 1 && last != 1) || (s.kind == 4 && last != 0 && last != 4 && s.x == 0 && s.y == 0) || ((s.kind == 2 || s.kind == 3) && last != 0 && last != 4))
/-- May pieces be, behind one of some kind? -/
def mayFrom : Int → List Sg → Bool
  | _, [] => true
  | last, s :: l => rightB s last && mayFrom s.kind l
/-- May pieces be? -/
def mayB (l : List Sg) : Bool := decide (l.length ≤ 300) && mayFrom 0 l
/-- The kind of the last piece; 0: there is none. -/
def lastK (l : List Sg) : Int := (l.getLast?.map Sg.kind).getD 0

end Go.Proofs.YtdfkbbcoolgfiaaGreat

/- Words for memory: a slice that reads as a list of cells, and how such a reading is carried from world to world. -/
namespace Go.Proofs.YtdfkbbcoolgfiaaGreat
open Go.RowKit

/-- The slice value '.slice A n c' reads as the cells xs, s of them an element. -/
def Sl (w : World) (s : Nat) (A : Option Addr) (n : Nat) (xs : List Value) : Prop :=
  xs.length = n * s ∧ (0 < n → ∃ b off : Nat, A = some ⟨b, off, none⟩ ∧ b < w.heap.size ∧ ∀ j u, xs[j]? = some u → w.cell? ⟨b, off + j, none⟩ = some u)

theorem bcell {W w1 : World} (hb : Below W.heap.size W w1) :
    (∀ b o, b < W.heap.size → w1.cell? ⟨b, o, none⟩ = W.cell? ⟨b, o, none⟩) ∧ (∀ b o, b < W.heap.size → w1.frozen? ⟨b, o, none⟩ = W.frozen? ⟨b, o, none⟩) :=
  ⟨fun b o h => hb.cell (p := ⟨b, o, none⟩) h, fun b o h => hb.frozen (p := ⟨b, o, none⟩) h⟩

section
variable {w w' : World} {s n : Nat} {A : Option Addr} {xs : List Value}
theorem Sl.nil_ : Sl w s A 0 [] := ⟨by simp, fun h => absurd h (by omega)⟩
theorem Sl.below (h : Sl w s A n xs) (hb : Below w.heap.size w w') : Sl w' s A n xs :=
  ⟨h.1, fun hn => by
    obtain ⟨b, off, e, hlt, hc⟩ := h.2 hn
    exact ⟨b, off, e, Nat.lt_of_lt_of_le hlt hb.size, fun j u hu => ((bcell hb).1 b _ hlt).trans (hc j u hu)⟩⟩
theorem Sl.alloc (h : Sl w s A n xs) (o : Obj) : Sl (w.alloc o) s A n xs := h.below ((Below.refl _ _).alloc (Nat.le_refl _) o)
theorem Sl.drew (h : Sl w s A n xs) : Sl w.drew s A n xs := h
theorem Sl.drewN (h : Sl w s A n xs) (k : Nat) : Sl (w.drewN k) s A n xs := h
end

/-- A list of numbers as cells. -/
def ints (zs : List Int) : List Value := zs.map (Value.int .i64)

/-- A piece's cells; pieces'. -/
def sgc (s : Sg) : List Value := [.int .i64 s.kind, .int .i64 s.x, .int .i64 s.y, .int .i64 s.cx, .int .i64 s.cy]
def sgs (l : List Sg) : List Value := l.flatMap sgc
/-- An edge's cells; edges'. -/
def edc (e : Ed) : List Value := [.int .i64 e.x0, .int .i64 e.y0, .bool e.bent, .int .i64 e.cx, .int .i64 e.cy, .int .i64 e.x1, .int .i64 e.y1]
def eds (l : List Ed) : List Value := l.flatMap edc

theorem len_flat {α : Type} (f : α → List Value) (s : Nat) (hs : ∀ x, (f x).length = s) (l : List α) : (l.flatMap f).length = l.length * s := by
  induction l with
  | nil => simp
  | cons a l ih => rw [List.flatMap_cons, List.length_append, ih, hs, List.length_cons, Nat.add_mul]; omega
theorem get_flat {α : Type} (f : α → List Value) (s : Nat) (hs : ∀ x, (f x).length = s) (l : List α) (k j : Nat) (hk : k < l.length) (hj : j < s) :
    (l.flatMap f)[k * s + j]? = (f l[k])[j]? := by
  induction l generalizing k with
  | nil => simp at hk
  | cons a l ih =>
    rw [List.flatMap_cons]
    cases k with
    | zero => rw [List.getElem?_append_left (by rw [hs]; omega)]; simp
    | succ k =>
      rw [List.getElem?_append_right (by rw [hs, Nat.succ_mul]; omega), hs]
      have : (k + 1) * s + j - s = k * s + j := by rw [Nat.succ_mul]; omega
      rw [this, ih k (by simpa using hk)]; simp
theorem sgs_len (l : List Sg) : (sgs l).length = l.length * 5 := len_flat sgc 5 (fun _ => rfl) l
theorem eds_len (l : List Ed) : (eds l).length = l.length * 7 := len_flat edc 7 (fun _ => rfl) l

/-- The cells of the k-th piece. -/
theorem Sl.sg {w : World} {A : Option Addr} {n : Nat} {l : List Sg} (h : Sl w 5 A n (sgs l)) (k : Nat) (hk : k < n) (hl : k < l.length) :
    ∃ b off : Nat, A = some ⟨b, off, none⟩ ∧ b < w.heap.size ∧ w.cell? ⟨b, off + k * 5, none⟩ = some (.int .i64 l[k].kind) ∧ w.cell? ⟨b, off + k * 5 + 1, none⟩ = some (.int .i64 l[k].x) ∧
      w.cell? ⟨b, off + k * 5 + 2, none⟩ = some (.int .i64 l[k].y) ∧ w.cell? ⟨b, off + k * 5 + 3, none⟩ = some (.int .i64 l[k].cx) ∧ w.cell? ⟨b, off + k * 5 + 4, none⟩ = some (.int .i64 l[k].cy) := by
  obtain ⟨b, off, e, hb, hc⟩ := h.2 (by omega)
  have g : ∀ j u, j < 5 → (sgc l[k])[j]? = some u → w.cell? ⟨b, off + k * 5 + j, none⟩ = some u := fun j u hj hu => by
    rw [Nat.add_assoc]; exact hc _ u (by rw [← hu]; exact get_flat sgc 5 (fun _ => rfl) l k j hl hj)
  exact ⟨b, off, e, hb, g 0 _ (by omega) rfl, g 1 _ (by omega) rfl, g 2 _ (by omega) rfl, g 3 _ (by omega) rfl, g 4 _ (by omega) rfl⟩
theorem Sl.sglen {w : World} {A : Option Addr} {n : Nat} {l : List Sg} (h : Sl w 5 A n (sgs l)) : l.length = n := by
  have := h.1; rw [sgs_len] at this; omega
theorem Sl.ed {w : World} {A : Option Addr} {n : Nat} {l : List Ed} (h : Sl w 7 A n (eds l)) (k : Nat) (hk : k < n) (hl : k < l.length) :
    ∃ b off : Nat, A = some ⟨b, off, none⟩ ∧ b < w.heap.size ∧ w.cell? ⟨b, off + k * 7, none⟩ = some (.int .i64 l[k].x0) ∧ w.cell? ⟨b, off + k * 7 + 1, none⟩ = some (.int .i64 l[k].y0) ∧
      w.cell? ⟨b, off + k * 7 + 2, none⟩ = some (.bool l[k].bent) ∧ w.cell? ⟨b, off + k * 7 + 3, none⟩ = some (.int .i64 l[k].cx) ∧ w.cell? ⟨b, off + k * 7 + 4, none⟩ = some (.int .i64 l[k].cy) ∧
      w.cell? ⟨b, off + k * 7 + 5, none⟩ = some (.int .i64 l[k].x1) ∧ w.cell? ⟨b, off + k * 7 + 6, none⟩ = some (.int .i64 l[k].y1) := by
  obtain ⟨b, off, e, hb, hc⟩ := h.2 (by omega)
  have g : ∀ j u, j < 7 → (edc l[k])[j]? = some u → w.cell? ⟨b, off + k * 7 + j, none⟩ = some u := fun j u hj hu => by
    rw [Nat.add_assoc]; exact hc _ u (by rw [← hu]; exact get_flat edc 7 (fun _ => rfl) l k j hl hj)
  exact ⟨b, off, e, hb, g 0 _ (by omega) rfl, g 1 _ (by omega) rfl, g 2 _ (by omega) rfl, g 3 _ (by omega) rfl, g 4 _ (by omega) rfl, g 5 _ (by omega) rfl, g 6 _ (by omega) rfl⟩
theorem Sl.edlen {w : World} {A : Option Addr} {n : Nat} {l : List Ed} (h : Sl w 7 A n (eds l)) : l.length = n := by
  have := h.1; rw [eds_len] at this; omega

/- The frame of a call that makes memory and changes none that was there. -/
section
variable {W w w' : World}
theorem bal (h : Below W.heap.size W w) (o : Obj) : Below W.heap.size W (w.alloc o) := h.alloc h.size o
theorem bset (h : Below W.heap.size W w) {p : Addr} (hp : W.heap.size ≤ p.block) (u : Value) : Below W.heap.size W (w.setCell p u) := h.setCell hp u
theorem btr (h : Below W.heap.size W w) (h' : Below w.heap.size w w') : Below W.heap.size W w' := h.trans (h'.mono h.size)
theorem bdrew (h : Below W.heap.size W w) : Below W.heap.size W w.drew := h.drew
theorem bdrewN (h : Below W.heap.size W w) (n : Nat) : Below W.heap.size W (w.drewN n) := ⟨h.os, h.tape, h.output, h.size, h.block⟩
end

/-- A new block of one-cell values, as a slice. -/
theorem sl_new {w : World} {t : TypeId} {n g : Nat} (vs : List Value) (hg : w.heap.size = g) (h : vs.length = n) : Sl (w.alloc (.cells vs.toArray t)) 1 (some ⟨g, 0, none⟩) n vs := by
  subst hg
  exact ⟨by omega, fun _ => ⟨_, _, rfl, by simp, fun j u hu => by
    rw [cell_of_row (w.alloc (.cells vs.toArray t)) w.heap.size (0 + j) vs.toArray t _ (heap_alloc_new w _)]; simpa using hu⟩⟩

/-- A new block of elements of s cells, as a slice. -/
theorem sl_newN {w : World} {t : TypeId} {n g s : Nat} (vs : List Value) (hg : w.heap.size = g) (h : vs.length = n * s) : Sl (w.alloc (.cells vs.toArray t)) s (some ⟨g, 0, none⟩) n vs := by
  subst hg
  exact ⟨h, fun _ => ⟨_, _, rfl, by simp, fun j u hu => by
    rw [cell_of_row (w.alloc (.cells vs.toArray t)) w.heap.size (0 + j) vs.toArray t _ (heap_alloc_new w _)]; simpa using hu⟩⟩

theorem new_cell {w : World} {t : TypeId} (cs : Array Value) (i : Nat) : (w.alloc (.cells cs t)).cell? ⟨w.heap.size, i, none⟩ = cs[i]? := cell_of_row _ _ _ cs t _ (heap_alloc_new w _)
theorem later_cell {W w : World} (hb : Below W.heap.size W w) {b o : Nat} (h : b < W.heap.size) : w.cell? ⟨b, o, none⟩ = W.cell? ⟨b, o, none⟩ := (bcell hb).1 b o h
theorem later_frozen {W w : World} (hb : Below W.heap.size W w) {b o : Nat} (h : b < W.heap.size) : w.frozen? ⟨b, o, none⟩ = W.frozen? ⟨b, o, none⟩ := (bcell hb).2 b o h

theorem quiet_left {P : Program} {f : FuncId} {args : Array Value} {w : World} {n : Nat} {v : Value} (h : Calls P f args (w.drewN n) fun e w' => e = .returned v ∧ w.drewN n = w') :
    Calls P f args (w.drewN n) fun e w'' => e = .returned v ∧ ∃ m, w'' = w.drewN m := h.mono fun _ _ ⟨he, hm⟩ => ⟨he, n, hm.symm⟩

theorem ret_bool {a b : Bool} (h : a = b) : Ending.returned (.bool a) = .returned (.bool b) := by rw [h]
theorem ret_int {k : IntKind} {a b : Int} (h : a = b) : Ending.returned (.int k a) = .returned (.int k b) := by rw [h]
theorem co_iff {z : Int} : co z = true ↔ -8191 ≤ z ∧ z ≤ 8191 := by simp [co]
theorem co_no {z : Int} (h : z < -8191 ∨ 8191 < z) : co z = false := by
  rw [Bool.eq_false_iff]; intro hc; rw [co_iff] at hc; omega

end Go.Proofs.YtdfkbbcoolgfiaaGreat

/- append onto a slice of the call's own, the source whatever slice: one law; and what an owned row gives. -/
namespace Go.Proofs.YtdfkbbcoolgfiaaGreat
open Go.RowKit

/-- t is a slice type of elements e, of so many cells and bytes. -/
def SlT (P : Program) (t e : TypeId) (size bytes : Nat) : Prop :=
  P.underlying t = some (.slice e) ∧ ∃ i z, P.info? e = some i ∧ i.zero = some z ∧ i.size = size ∧ i.bytes = bytes ∧ z.cells.size = size ∧ 0 < size ∧ bytes ≤ 1000

theorem slT_of {P : Program} {t e : TypeId} {size bytes : Nat} (hu : P.underlying t = some (.slice e))
    (h : (P.info? e).map (fun i => (i.zero.map (fun z => z.cells.size), i.size, i.bytes)) = some (some size, size, bytes)) (h0 : 0 < size) (hb : bytes ≤ 1000) : SlT P t e size bytes := by
  refine ⟨hu, ?_⟩
  cases hi : P.info? e with
  | none => simp [hi] at h
  | some i =>
    cases hz : i.zero with
    | none => simp [hi, hz] at h
    | some z =>
      simp [hi, hz] at h
      exact ⟨i, z, rfl, hz, h.2.1, h.2.2, h.1, h0, hb⟩

theorem own_sl {w : World} {base : Nat} {e : TypeId} {s n c : Nat} {A : Option Addr} {xs : List Value} (h : w.ownsRow base e s (.slice A n c) n xs) : Sl w s A n xs := by
  refine ⟨h.1, fun hn => ?_⟩
  rcases h.2 with ⟨_, h0⟩ | ⟨g, cap, cur, hv, _, hg, _, _, _, _⟩
  · omega
  · simp only [Value.slice.injEq] at hv
    obtain ⟨rfl, _, rfl⟩ := hv
    refine ⟨g, 0, rfl, (Array.getElem?_eq_some_iff.1 hg).1, fun j u hu => ?_⟩
    have := h.cells (g := g) rfl j u hu
    rw [Nat.zero_add]
    have hadd : (⟨g, 0, none⟩ : Addr).add j = ⟨g, j, none⟩ := by unfold Addr.add; split <;> simp_all
    rwa [hadd] at this
theorem own_cap {w : World} {base : Nat} {e : TypeId} {s n c : Nat} {A : Option Addr} {xs : List Value} (h : w.ownsRow base e s (.slice A n c) n xs) : n ≤ c := by
  rcases h.2 with ⟨hv, h0⟩ | ⟨g, cap, cur, hv, _, hg, hn, _, _, _⟩
  · omega
  · simp only [Value.slice.injEq] at hv
    obtain ⟨_, _, rfl⟩ := hv
    exact hn
/-- An owned value is a slice of so many. -/
theorem own_form {w : World} {base : Nat} {e : TypeId} {s n : Nat} {v : Value} {xs : List Value} (h : w.ownsRow base e s v n xs) : ∃ A c, v = .slice A n c := by
  rcases h.2 with ⟨rfl, rfl⟩ | ⟨g, cap, cur, rfl, _⟩
  · exact ⟨none, 0, rfl⟩
  · exact ⟨_, _, rfl⟩
theorem own_nil {w : World} {base : Nat} {e : TypeId} {s : Nat} : w.ownsRow base e s (.slice none 0 0) 0 [] := World.ownsRow_nil _ _ _ _
/-- What is owned stays so while others make memory. -/
theorem own_below {w w' : World} {base : Nat} {e : TypeId} {s n : Nat} {v : Value} {xs : List Value} (h : w.ownsRow base e s v n xs) (hb : Below w.heap.size w w') : w'.ownsRow base e s v n xs :=
  h.kept (row := none) ⟨hb.os, hb.tape, hb.output, hb.size, fun k hk _ => hb.block k hk⟩ (by cases v.ownBlock <;> simp)
theorem own_mono {w : World} {base base' : Nat} {e : TypeId} {s n : Nat} {v : Value} {xs : List Value} (h : w.ownsRow base e s v n xs) (hb : base' ≤ base) : w.ownsRow base' e s v n xs := by
  refine ⟨h.1, ?_⟩
  rcases h.2 with h0 | ⟨g, cap, cur, hv, hbg, rest⟩
  · exact .inl h0
  · exact .inr ⟨g, cap, cur, hv, Nat.le_trans hb hbg, rest⟩
/-- What was owned, in a world that has written that row's own block alone, is told by Below. -/
theorem grown_below {W w w' : World} {A : Option Addr} {n c : Nat} {e : TypeId} {s : Nat} {xs : List Value} (hb : Below W.heap.size W w) (hg : w.grownBy w' (Value.ownBlock (.slice A n c)))
    (hown : w.ownsRow W.heap.size e s (.slice A n c) n xs) : Below W.heap.size W w' :=
  hb.grown hg hb.size fun k hk => (hown.lt k hk).1

/-- A new block of so many elements is owned. -/
theorem own_new {w : World} {t : TypeId} {n g s base : Nat} (vs : List Value) (hg : w.heap.size = g) (h : vs.length = n * s) (hb : base ≤ g) (hn : n ≤ 1000000) :
    (w.alloc (.cells vs.toArray t)).ownsRow base t s (.slice (some ⟨g, 0, none⟩) n n) n vs := by
  subst hg
  have := World.ownsRow_lit (base := base) (e := t) (size := s) w vs.toArray n hb (by simp only [maxLen]; omega) (by simpa using h)
  simpa using this

theorem oneCell_ints (zs : List Int) : ∀ u ∈ ints zs, u.oneCell' = true := by
  intro u hu; simp only [ints, List.mem_map] at hu; obtain ⟨z, _, rfl⟩ := hu; rfl
theorem oneCell_sgc (s : Sg) : ∀ u ∈ sgc s, u.oneCell' = true := by
  intro u hu; simp only [sgc, List.mem_cons, List.not_mem_nil, or_false] at hu; rcases hu with rfl | rfl | rfl | rfl | rfl <;> rfl
theorem oneCell_edc (s : Ed) : ∀ u ∈ edc s, u.oneCell' = true := by
  intro u hu; simp only [edc, List.mem_cons, List.not_mem_nil, or_false] at hu; rcases hu with rfl | rfl | rfl | rfl | rfl | rfl | rfl <;> rfl
theorem oneCell_flat {α : Type} (f : α → List Value) (hf : ∀ a, ∀ u ∈ f a, u.oneCell' = true) (l : List α) : ∀ u ∈ l.flatMap f, u.oneCell' = true := by
  intro u hu; rw [List.mem_flatMap] at hu; obtain ⟨a, _, ha⟩ := hu; exact hf a u ha
theorem oneCell_sgs (l : List Sg) : ∀ u ∈ sgs l, u.oneCell' = true := oneCell_flat sgc oneCell_sgc l
theorem oneCell_eds (l : List Ed) : ∀ u ∈ eds l, u.oneCell' = true := oneCell_flat edc oneCell_edc l
theorem sgs_app (l m : List Sg) : sgs (l ++ m) = sgs l ++ sgs m := by simp [sgs]
theorem eds_app (l m : List Ed) : eds (l ++ m) = eds l ++ eds m := by simp [eds]
theorem sgs_one (s : Sg) : sgs [s] = sgc s := by simp [sgs]
theorem eds_one (s : Ed) : eds [s] = edc s := by simp [eds]

section
variable {P : Program}
theorem run_app (w : World) {t ty e : TypeId} {base size bytes : Nat} (T : SlT P t e size bytes) {A : Option Addr} {n c : Nat} {xs : List Value} (hown : w.ownsRow base e size (.slice A n c) n xs)
    {X : Option Addr} {m cx : Nat} {news : List Value} (hr : Sl w size X m news) (h1 : ∀ u ∈ news, u.oneCell' = true) (hsm : n + m ≤ 1000000) (hbase : base ≤ w.heap.size) :
    ∃ A' c' w', (Builtin.append_ #[t, t] ty #[.slice A n c, .slice X m cx]).run P w = .ok (.slice A' (n + m) c') w' ∧ w'.ownsRow base e size (.slice A' (n + m) c') (n + m) (xs ++ news) ∧
      w.grownBy w' (Value.ownBlock (.slice A n c)) ∧ ((Value.slice A' (n + m) c').ownBlock = (Value.slice A n c).ownBlock ∨ (Value.slice A' (n + m) c').ownBlock = some w.heap.size) := by
  obtain ⟨ht, i, z, hi, hz, hsize, hby, hzs, hsz, hbb⟩ := T
  rcases X with _ | ad
  · have hm : m = 0 := by
      rcases Nat.eq_zero_or_pos m with h0 | h0
      · exact h0
      · obtain ⟨b, off, h, _⟩ := hr.2 h0; cases h
    subst hm
    have hn : news = [] := List.eq_nil_of_length_eq_zero (by simpa using hr.1)
    subst hn
    refine ⟨A, c, w, ?_, by simpa using hown, ⟨rfl, rfl, rfl, Nat.le_refl _, fun _ _ _ => rfl⟩, .inl rfl⟩
    have hnc := own_cap hown
    rcases hown.2 with ⟨hv, h0⟩ | ⟨g, cap, cur, hv, _⟩
    · simp only [Value.slice.injEq] at hv
      obtain ⟨rfl, rfl, rfl⟩ := hv
      simp [Builtin.append_, run_underlying ht, sizeOf, typeInfo, hi, Builtin.lenOf, Builtin.firstCells]
    · simp only [Value.slice.injEq] at hv
      obtain ⟨rfl, _, rfl⟩ := hv
      simp [Builtin.append_, run_underlying ht, sizeOf, typeInfo, hi, Builtin.lenOf, Builtin.firstCells, hnc, storeCells]
  · have hcells : ∀ j u, news[j]? = some u → w.cell? (ad.add j) = some u := by
      intro j u hu
      rcases Nat.eq_zero_or_pos m with h0 | h0
      · subst h0
        have hn : news = [] := List.eq_nil_of_length_eq_zero (by simpa using hr.1)
        subst hn
        simp at hu
      · obtain ⟨b, off, h, _, hc⟩ := hr.2 h0
        injection h with h
        subst h
        have hadd : (⟨b, off, none⟩ : Addr).add j = ⟨b, off + j, none⟩ := by unfold Addr.add; split <;> simp_all
        rw [hadd]
        exact hc j u hu
    have hb2 : (n + m) * bytes ≤ 1000000 * 1000 := Nat.mul_le_mul hsm hbb
    obtain ⟨v', w', hrun, h2, h3, _, h5⟩ := run_append_own_at (P := P) w base t ty e i z size bytes ht hi hz hsize hby hzs hsz (.slice A n c) n xs hown ad m cx news hr.1 hcells h1 (by simp only [maxLen]; omega) (by omega) hbase
    obtain ⟨A', c', rfl⟩ := own_form h2
    exact ⟨A', c', w', hrun, h2, h3, h5⟩

theorem wp_app {o : Oper} {a : Act} {w : World} {K : Act → World → Prop} {Q : Exit → Act → World → Prop} (s x : Operand) (t : TypeId)
    (ho : o.op = .call { callee := .builtin .append, args := #[s, x], argTypes := #[t, t] }) (base : Nat) {e : TypeId} {size bytes : Nat} (T : SlT P t e size bytes)
    {A : Option Addr} {n c : Nat} {xs : List Value} (hs : a.eval s = .slice A n c) (hown : w.ownsRow base e size (.slice A n c) n xs)
    {X : Option Addr} {m cx : Nat} (news : List Value) (hx : a.eval x = .slice X m cx) (hr : Sl w size X m news) (h1 : ∀ u ∈ news, u.oneCell' = true) (hsm : n + m ≤ 1000000) (hbase : base ≤ w.heap.size)
    (h : ∀ A' c' w', w'.ownsRow base e size (.slice A' (n + m) c') (n + m) (xs ++ news) → w.grownBy w' (Value.ownBlock (.slice A n c)) →
      ((Value.slice A' (n + m) c').ownBlock = (Value.slice A n c).ownBlock ∨ (Value.slice A' (n + m) c').ownBlock = some w.heap.size) → K (a.put o.dst (.slice A' (n + m) c')) w') : o.wp P a w K Q := by
  obtain ⟨A', c', w', hrun, h2, h3, h4⟩ := run_app (P := P) (ty := o.type) w T hown (cx := cx) hr h1 hsm hbase
  unfold Oper.wp execOp
  simp only [ho, resolve, invoke, builtin, Sem.run_bind, Sem.run_pure, Result.andThen_ok, List.map_toArray, List.map_cons, List.map_nil, hs, hx, hrun]
  exact h A' c' w' h2 h3 h4

/-- At the operation, in a walk. -/
theorem wpList_app {ops : Array Oper} {rest : List Oper} {o : Oper} {a : Act} {w : World} {Q : Exit → Act → World → Prop} (hgd : o.guard = none) (s x : Operand) (t : TypeId)
    (ho : o.op = .call { callee := .builtin .append, args := #[s, x], argTypes := #[t, t] }) (base : Nat) {e : TypeId} {size bytes : Nat} (T : SlT P t e size bytes)
    {A : Option Addr} {n c : Nat} {xs : List Value} (hs : a.eval s = .slice A n c) (hown : w.ownsRow base e size (.slice A n c) n xs)
    {X : Option Addr} {m cx : Nat} (news : List Value) (hx : a.eval x = .slice X m cx) (hr : Sl w size X m news) (h1 : ∀ u ∈ news, u.oneCell' = true) (hsm : n + m ≤ 1000000) (hbase : base ≤ w.heap.size)
    (h : ∀ A' c' w', w'.ownsRow base e size (.slice A' (n + m) c') (n + m) (xs ++ news) → w.grownBy w' (Value.ownBlock (.slice A n c)) →
      ((Value.slice A' (n + m) c').ownBlock = (Value.slice A n c).ownBlock ∨ (Value.slice A' (n + m) c').ownBlock = some w.heap.size) → wpList P ops Q rest (a.put o.dst (.slice A' (n + m) c')) w') :
    wpList P ops Q (o :: rest) a w :=
  wpList_plain hgd fun _ hK => wp_app s x t ho base T hs hown news hx hr h1 hsm hbase fun A' c' w' h2 h3 h4 => hK _ _ (h A' c' w' h2 h3 h4)

/-- At a step of a region that draws its order. -/
theorem step_app {ops : Array Oper} {o : Oper} {a : Act} {w : World} {K : Act → World → Prop} {Q : Exit → Act → World → Prop} {E : Prop} (hgd : o.guard = none) (s x : Operand) (t : TypeId)
    (ho : o.op = .call { callee := .builtin .append, args := #[s, x], argTypes := #[t, t] }) (base : Nat) {e : TypeId} {size bytes : Nat} (T : SlT P t e size bytes)
    {A : Option Addr} {n c : Nat} {xs : List Value} (hs : a.eval s = .slice A n c) (hown : w.ownsRow base e size (.slice A n c) n xs)
    {X : Option Addr} {m cx : Nat} (news : List Value) (hx : a.eval x = .slice X m cx) (hr : Sl w size X m news) (h1 : ∀ u ∈ news, u.oneCell' = true) (hsm : n + m ≤ 1000000) (hbase : base ≤ w.heap.size)
    (h : ∀ A' c' w', w'.ownsRow base e size (.slice A' (n + m) c') (n + m) (xs ++ news) → w.grownBy w' (Value.ownBlock (.slice A n c)) →
      ((Value.slice A' (n + m) c').ownBlock = (Value.slice A n c).ownBlock ∨ (Value.slice A' (n + m) c').ownBlock = some w.heap.size) → K (a.put o.dst (.slice A' (n + m) c')) w') :
    if Region.wanted o (yielded ops a.tmps) = true then Oper.wp P o a w K Q else E := by
  have hw : Region.wanted o (yielded ops a.tmps) = true := by simp [Region.wanted, hgd]
  rw [if_pos hw]
  exact wp_app s x t ho base T hs hown news hx hr h1 hsm hbase h
end

end Go.Proofs.YtdfkbbcoolgfiaaGreat

/- The plain side of layer 27: into how many lines, which. -/
namespace Go.Proofs.YtdfkbbcoolgfiaaGreat

/-- Any number as one from 0 to n - 1. -/
def placeI (v n : Int) : Int := v % n
def sizeI (v : Int) : Int := max v (-v)
/-- The power of two whose square times 4 is at least so much. -/
def pw (far : Int) : Int :=
  if far ≤ 4 then 1 else if far ≤ 16 then 2 else if far ≤ 64 then 4 else if far ≤ 256 then 8 else if far ≤ 1024 then 16 else if far ≤ 4096 then 32 else if far ≤ 16384 then 64 else 128
def farI (x0 y0 cx cy x1 y1 : Int) : Int := max (sizeI (x0 - 2 * cx + x1)) (sizeI (y0 - 2 * cy + y1))
/-- Into how many straight pieces. -/
def cntI (e : Ed) : Int := if edOK e = false then 0 else if e.bent = false then 1 else pw (farI e.x0 e.y0 e.cx e.cy e.x1 e.y1)
/-- v by m (above 0), to the nearest, of two as near the even one. -/
def rnd (v m : Int) : Int := if m < 2 * (v % m) ∨ (2 * (v % m) = m ∧ (v / m) % 2 = 1) then v / m + 1 else v / m
/-- One coordinate of the k-th place of n. -/
def plc1 (a c b k n : Int) : Int := rnd (a * (n - k) * (n - k) + 2 * c * k * (n - k) + b * k * k) (n * n)
/-- The k-th place of n: the first one is the beginning itself. -/
def plcX (e : Ed) (n : Int) (k : Nat) : Int := if k = 0 then e.x0 else plc1 e.x0 e.cx e.x1 k n
def plcY (e : Ed) (n : Int) (k : Nat) : Int := if k = 0 then e.y0 else plc1 e.y0 e.cy e.y1 k n
/-- The first so many of the n lines. -/
def lnsTo (e : Ed) (n : Int) (k : Nat) : List Ed := (List.range k).map fun i => ⟨plcX e n i, plcY e n i, false, 0, 0, plcX e n (i + 1), plcY e n (i + 1)⟩
/-- The straight ones. -/
def lns (e : Ed) : List Ed := if edOK e = false then [] else if e.bent = false then [e] else lnsTo e (cntI e) (cntI e).toNat

theorem pw_cases (far : Int) : pw far = 1 ∨ pw far = 2 ∨ pw far = 4 ∨ pw far = 8 ∨ pw far = 16 ∨ pw far = 32 ∨ pw far = 64 ∨ pw far = 128 := by
  unfold pw; repeat (first | (split; · simp) | simp)
theorem pw_bd (far : Int) : 1 ≤ pw far ∧ pw far ≤ 128 := by rcases pw_cases far with h | h | h | h | h | h | h | h <;> omega

theorem edOK_iff {e : Ed} : edOK e = true ↔ (-8191 ≤ e.x0 ∧ e.x0 ≤ 8191) ∧ (-8191 ≤ e.y0 ∧ e.y0 ≤ 8191) ∧ (-8191 ≤ e.cx ∧ e.cx ≤ 8191) ∧ (-8191 ≤ e.cy ∧ e.cy ≤ 8191) ∧ (-8191 ≤ e.x1 ∧ e.x1 ≤ 8191) ∧ (-8191 ≤ e.y1 ∧ e.y1 ≤ 8191) ∧ (e.bent = true ∨ (e.cx = 0 ∧ e.cy = 0)) := by
  simp [edOK, nearB, co, and_assoc]

theorem edOK_mk {x0 y0 cx cy x1 y1 : Int} {bent : Bool} (h0 : -8191 ≤ x0 ∧ x0 ≤ 8191) (h1 : -8191 ≤ y0 ∧ y0 ≤ 8191) (h2 : -8191 ≤ cx ∧ cx ≤ 8191) (h3 : -8191 ≤ cy ∧ cy ≤ 8191) (h4 : -8191 ≤ x1 ∧ x1 ≤ 8191) (h5 : -8191 ≤ y1 ∧ y1 ≤ 8191)
    (h6 : bent = true ∨ (cx = 0 ∧ cy = 0)) : edOK ⟨x0, y0, bent, cx, cy, x1, y1⟩ = true := by
  rw [edOK_iff]; exact ⟨h0, h1, h2, h3, h4, h5, h6⟩

theorem farI_le {x0 y0 cx cy x1 y1 : Int} (h : edOK ⟨x0, y0, true, cx, cy, x1, y1⟩ = true) : 0 ≤ farI x0 y0 cx cy x1 y1 ∧ farI x0 y0 cx cy x1 y1 ≤ 32764 := by
  rw [edOK_iff] at h; simp only at h
  unfold farI sizeI
  omega

/-- How a doubling number comes to the power. -/
theorem pw_step {far n : Int} (hn : n = 1 ∨ n = 2 ∨ n = 4 ∨ n = 8 ∨ n = 16 ∨ n = 32 ∨ n = 64 ∨ n = 128) (hf : far ≤ 32764) (hle : n ≤ pw far) :
    (4 * n * n < far → (n * 2 = 1 ∨ n * 2 = 2 ∨ n * 2 = 4 ∨ n * 2 = 8 ∨ n * 2 = 16 ∨ n * 2 = 32 ∨ n * 2 = 64 ∨ n * 2 = 128) ∧ n * 2 ≤ pw far) ∧ (¬ 4 * n * n < far → n = pw far) := by
  unfold pw at *
  rcases hn with rfl | rfl | rfl | rfl | rfl | rfl | rfl | rfl <;> (constructor <;> intro h <;> (repeat' split) <;> omega)

theorem mul_bd {a b A B : Int} (ha : -A ≤ a ∧ a ≤ A) (hb : 0 ≤ b ∧ b ≤ B) : -(A * B) ≤ a * b ∧ a * b ≤ A * B := by
  have h0 : 0 ≤ A := by omega
  have h1 : A * b ≤ A * B := Int.mul_le_mul_of_nonneg_left hb.2 h0
  have h2 : a * b ≤ A * b := Int.mul_le_mul_of_nonneg_right ha.2 hb.1
  have h3 : (-A) * b ≤ a * b := Int.mul_le_mul_of_nonneg_right ha.1 hb.1
  rw [Int.neg_mul] at h3
  omega
theorem bd3 (a j k : Int) (ha : -8191 ≤ a ∧ a ≤ 8191) (hj : 0 ≤ j ∧ j ≤ 128) (hk : 0 ≤ k ∧ k ≤ 128) :
    (-1048448 ≤ a * j ∧ a * j ≤ 1048448) ∧ (-134201344 ≤ a * j * k ∧ a * j * k ≤ 134201344) := by
  have h1 := mul_bd (A := 8191) (B := 128) ha hj
  have h2 := mul_bd (A := 1048448) (B := 128) (a := a * j) (by omega) hk
  omega

theorem rnd_bd (v m : Int) (hm : 0 < m) : 2 * (m * rnd v m) ≤ 2 * v + m ∧ 2 * v - m ≤ 2 * (m * rnd v m) := by
  have h1 := Int.mul_ediv_add_emod v m
  have h2 := Int.emod_nonneg v (by omega : m ≠ 0)
  have h3 := Int.emod_lt_of_pos v hm
  unfold rnd
  split
  · rename_i h
    rw [Int.mul_add, Int.mul_one]
    rcases h with h | ⟨h, _⟩ <;> omega
  · rename_i h
    have : ¬ m < 2 * (v % m) := fun hh => h (.inl hh)
    omega
/-- What is between two whole numbers is so when rounded. -/
theorem rnd_between (v m a b : Int) (hm : 0 < m) (ha : a * m ≤ v) (hb : v ≤ b * m) : a ≤ rnd v m ∧ rnd v m ≤ b := by
  have h1 := rnd_bd v m hm
  constructor
  · apply Decidable.byContradiction; intro h
    have : m * rnd v m ≤ m * (a - 1) := Int.mul_le_mul_of_nonneg_left (by omega) (by omega)
    rw [Int.mul_sub, Int.mul_one, Int.mul_comm m a] at this; omega
  · apply Decidable.byContradiction; intro h
    have : m * (b + 1) ≤ m * rnd v m := Int.mul_le_mul_of_nonneg_left (by omega) (by omega)
    rw [Int.mul_add, Int.mul_one, Int.mul_comm m b] at this; omega
theorem rnd_exact (a m : Int) (hm : 0 < m) : rnd (a * m) m = a := by
  have := rnd_between (a * m) m a a hm (Int.le_refl _) (Int.le_refl _); omega

theorem cntI_yes {e : Ed} (h : edOK e = true) (hb : e.bent = true) : cntI e = pw (farI e.x0 e.y0 e.cx e.cy e.x1 e.y1) := by simp [cntI, h, hb]
theorem cntI_flat {e : Ed} (h : edOK e = true) (hb : e.bent = false) : cntI e = 1 := by simp [cntI, h, hb]
theorem cntI_no {e : Ed} (h : edOK e = false) : cntI e = 0 := by simp [cntI, h]
theorem cntI_bd {e : Ed} (h : edOK e = true) (hb : e.bent = true) : 1 ≤ cntI e ∧ cntI e ≤ 128 := by rw [cntI_yes h hb]; exact pw_bd _
theorem lns_yes {e : Ed} (h : edOK e = true) (hb : e.bent = true) : lns e = lnsTo e (cntI e) (cntI e).toNat := by simp [lns, h, hb]
theorem lns_flat {e : Ed} (h : edOK e = true) (hb : e.bent = false) : lns e = [e] := by simp [lns, h, hb]
theorem lns_no {e : Ed} (h : edOK e = false) : lns e = [] := by simp [lns, h]
theorem lns_len {e : Ed} : (lns e).length = (cntI e).toNat := by
  cases h : edOK e
  · rw [lns_no h, cntI_no h]; rfl
  · cases hb : e.bent
    · rw [lns_flat h hb, cntI_flat h hb]; rfl
    · rw [lns_yes h hb]; simp [lnsTo]
theorem lnsTo_snoc (e : Ed) (n : Int) (k : Nat) : lnsTo e n (k + 1) = lnsTo e n k ++ [⟨plcX e n k, plcY e n k, false, 0, 0, plcX e n (k + 1), plcY e n (k + 1)⟩] := by
  simp [lnsTo, List.range_succ]
theorem lnsTo_len (e : Ed) (n : Int) (k : Nat) : (lnsTo e n k).length = k := by simp [lnsTo]

end Go.Proofs.YtdfkbbcoolgfiaaGreat

/- Matrices of fixes, plainly. -/
namespace Go.Proofs.YtdfkbbcoolgfiaaGreat

def fixB (v : Int) : Bool := decide (-1073741823 ≤ v) && decide (v ≤ 1073741823)
structure Mt where
  a : Int
  b : Int
  c : Int
  d : Int
  e : Int
  f : Int
def mtB (m : Mt) : Bool := fixB m.a && fixB m.b && fixB m.c && fixB m.d && fixB m.e && fixB m.f
/-- n by 2 to the k, to the nearest, of two as near the even one: p is 2 to the k, h its half. -/
def rndM (p h n : Int) : Int := if n - n / p * p > h ∨ (n - n / p * p = h ∧ n / p % 2 = 1) then n / p + 1 else n / p
def rnd16 (n : Int) : Int := rndM 65536 32768 n
def rnd32 (n : Int) : Int := rndM 4294967296 2147483648 n
theorem rndM_le {p h n : Int} (_hp : 0 < p) : n / p ≤ rndM p h n ∧ rndM p h n ≤ n / p + 1 := by
  unfold rndM; split <;> omega
end Go.Proofs.YtdfkbbcoolgfiaaGreat

/- Regions that draw their order and whose callees make memory: one walk, in the text's order. The class of worlds: those that have grown from one. -/
namespace Go.Proofs.YtdfkbbcoolgfiaaGreat
open Go.RowKit

/-- A world that has grown from another one. -/
structure Grown (w : World) where
  world : World
  below : Below w.heap.size w world
instance (w : World) : Nonempty (Grown w) := ⟨⟨w, Below.refl _ _⟩⟩
theorem Grown.cell {w : World} (x : Grown w) {b o : Nat} {v : Value} (h : w.cell? ⟨b, o, none⟩ = some v) (hb : b < w.heap.size) : x.world.cell? ⟨b, o, none⟩ = some v := (later_cell x.below hb).trans h
theorem Grown.size {w : World} (x : Grown w) : w.heap.size ≤ x.world.heap.size := x.below.size
theorem wp_region_grown {P : Program} {id : Nat} {Q : Exit → Act → World → Prop} {a : Act} {w : World} {l : List Oper} (hm : P.follows .mixedOrders = true) (hB : Region.lexB .any l.toArray = true)
    (h : wpQuiet P l.toArray (fun w' => ∃ x : Grown w, w' = x.world) (fun a' => ∀ w', (∃ x : Grown w, w' = x.world) → Q .normal a' w') l a) : (Code.region id l.toArray true).wp P Q a w :=
  wp_region_quiet (C := fun w' => ∃ x : Grown w, w' = x.world) hm hB ⟨⟨_, bdrew (Below.refl _ _)⟩, rfl⟩ (by simpa using h)
/-- A callee's contract there. -/
theorem Calls.grown {P : Program} {f : FuncId} {args : Array Value} {w : World} {x : Grown w} {v : Value}
    (h : Calls P f args x.world fun e w' => e = .returned v ∧ Below x.world.heap.size x.world w') : Calls P f args x.world fun e w'' => e = .returned v ∧ ∃ y : Grown w, w'' = y.world :=
  h.mono fun _ _ ⟨he, hb⟩ => ⟨he, ⟨_, btr x.below hb⟩, rfl⟩
theorem Calls.grown_same {P : Program} {f : FuncId} {args : Array Value} {w : World} {x : Grown w} {v : Value}
    (h : Calls P f args x.world fun e w' => e = .returned v ∧ x.world = w') : Calls P f args x.world fun e w'' => e = .returned v ∧ ∃ y : Grown w, w'' = y.world :=
  h.mono fun _ _ ⟨he, hb⟩ => ⟨he, x, hb.symm⟩
end Go.Proofs.YtdfkbbcoolgfiaaGreat

/- A region that draws its order: first what only reads, then calls whose order is forced: one walk, in the text's order. -/
namespace Go.Proofs.YtdfkbbcoolgfiaaGreat

section
variable {P : Program} {md : Region.Mode} {ops : Array Oper} {C : World → Prop} {Q : Exit → Act → World → Prop}

/-- Operations ahead of c are quiet in the class C; behind them: whatever. -/
def wpAnyM (P : Program) (md : Region.Mode) (ops : Array Oper) (C : World → Prop) (Q : Exit → Act → World → Prop) (c : Nat) : Nat → Array Bool → Act → Prop
  | 0, listed, a => Region.ready md ops listed = [] ∧ ∀ w, C w → Q .normal a w
  | fuel + 1, listed, a =>
    (Region.ready md ops listed = [] → ∀ w, C w → Q .normal a w) ∧
    ∀ i ∈ Region.ready md ops listed, if i < c then qOp P ops C i (wpAnyM P md ops C Q c fuel (listed.setIfInBounds i true)) a else ∀ w, C w → wpOp P ops Q i (wpAny P md ops Q fuel (listed.setIfInBounds i true)) a w
theorem wpAny_of_M {c : Nat} : ∀ (fuel : Nat) (listed : Array Bool) (a : Act) (w : World), C w → wpAnyM P md ops C Q c fuel listed a → wpAny P md ops Q fuel listed a w
  | 0, _, _, _, hw, h => ⟨h.1, h.2 _ hw⟩
  | fuel + 1, _, _, w, hw, h => ⟨fun h0 => h.1 h0 w hw, fun i hi => by
      have h1 := h.2 i hi
      split at h1
      · exact wpOp_of_qOp hw (fun a' w' hw' h' => wpAny_of_M fuel _ a' w' hw' h') h1
      · exact h1 w hw⟩

def waitsOn (md : Region.Mode) (ops : Array Oper) (i : Nat) (bs : List Nat) (d : Nat) : Bool :=
  match ops[d]? with
  | some o => o.after.toList.any fun e => Region.binds md e && (e.on == i || bs.contains e.on)
  | none => false
def blkL (md : Region.Mode) (ops : Array Oper) (i : Nat) : List Nat :=
  (List.range ops.size).foldl (fun acc j => if waitsOn md ops i acc j then acc ++ [j] else acc) []
/-- All from c on wait for number i. -/
def blkB (md : Region.Mode) (ops : Array Oper) (c : Nat) (listed : Array Bool) (i : Nat) : Bool :=
  (blkL md ops i).all (fun d => !listed.getD d false && waitsOn md ops i (blkL md ops i) d) && (List.range ops.size).all fun d => decide (d < c) || (blkL md ops i).contains d

theorem not_blk {i j : Nat} {bs : List Nat} {listed : Array Bool} (hw : ∀ d ∈ bs, waitsOn md ops i bs d = true) (hu : ∀ d ∈ bs, listed.getD d false = false) (hi : listed.getD i true = false) (hj : j ∈ Region.ready md ops listed) : j ∉ bs := by
  intro hm
  have h1 := hw j hm
  obtain ⟨_, o, ho, hall⟩ := mem_ready.1 hj
  unfold waitsOn at h1
  rw [ho] at h1
  simp only [List.any_eq_true, Bool.and_eq_true, Bool.or_eq_true, beq_iff_eq, List.contains_iff_mem] at h1
  obtain ⟨e, he, hb, hon⟩ := h1
  have h2 := hall e (by simpa using he) hb
  rcases hon with hon | hon
  · rw [hon] at h2
    rcases Nat.lt_or_ge i listed.size with h' | h'
    · simp [h'] at hi h2; rw [hi] at h2; cases h2
    · simp [Array.getElem?_eq_none h'] at h2
  · rw [hu _ hon] at h2; cases h2

theorem wpAnyM_first {c i : Nat} {oi : Oper} {v : Value} {bs : List Nat} (hi : ops[i]? = some oi) (hic : i < c) (hsel : ∀ (j : Nat) (o : Oper) cs b, ops[j]? = some o → o.op ≠ .select cs b)
    (hw : ∀ d ∈ bs, waitsOn md ops i bs d = true) (hc : ∀ d, d < ops.size → d < c ∨ d ∈ bs) :
    ∀ (fuel : Nat) (listed : Array Bool) (a : Act),
      (∀ j oj, ops[j]? = some oj → j ≠ i → listed.getD j true = false → (∀ e ∈ oj.after, Region.binds md e = true → e.on ≠ i) → oi.apart ops oj = true) →
      (∀ d ∈ bs, listed.getD d false = false) →
      i ∈ Region.ready md ops listed → YieldsIn P ops C oi v a →
      wpAnyM P md ops C Q c fuel (listed.setIfInBounds i true) (a.put oi.dst v) → wpAnyM P md ops C Q c (fuel + 1) listed a := by
  intro fuel
  induction fuel with
  | zero =>
    intro listed a _ _ hr hy H
    refine ⟨fun h => (by rw [h] at hr; cases hr), fun j hj => ?_⟩
    by_cases hji : j = i
    · subst hji; rw [if_pos hic]; exact hy.qOp hi H
    · have := ready_mono hj hji
      rw [H.1] at this
      cases this
  | succ fuel ih =>
    intro listed a hfree hu hr hy H
    refine ⟨fun h => (by rw [h] at hr; cases hr), fun j hj => ?_⟩
    by_cases hji : j = i
    · subst hji; rw [if_pos hic]; exact hy.qOp hi H
    · have hnb := not_blk hw hu (mem_ready.1 hr).1 hj
      obtain ⟨hjun, oj, hoj, hall⟩ := mem_ready.1 hj
      have hjs : j < ops.size := (Array.getElem?_eq_some_iff.1 hoj).1
      have hjc : j < c := (hc j hjs).resolve_right hnb
      have h1 := H.2 j (ready_mono hj hji)
      rw [if_pos hjc] at h1 ⊢
      have hnot : ∀ e ∈ oj.after, Region.binds md e = true → e.on ≠ i := fun e he hb heq => by
        have h1 := hall e he hb
        have h0 := (mem_ready.1 hr).1
        rw [heq] at h1
        rcases Nat.lt_or_ge i listed.size with h' | h'
        · simp [h'] at h0 h1; rw [h0] at h1; cases h1
        · simp [Array.getElem?_eq_none h'] at h1
      have h2 := qOp_put hoj (hfree j oj hoj hji hjun hnot) (fun cs b => hsel i oi cs b hi) (fun cs b => hsel j oj cs b hoj) hy h1
      have hfree' : ∀ k ok, ops[k]? = some ok → k ≠ i → (listed.setIfInBounds j true).getD k true = false →
          (∀ e ∈ ok.after, Region.binds md e = true → e.on ≠ i) → oi.apart ops ok = true := fun k ok hk hki hun hno => by
        refine hfree k ok hk hki ?_ hno
        by_cases hjk : j = k
        · subst hjk; exact hjun
        · rw [getD_set_ne true hjk] at hun; exact hun
      have hu' : ∀ d ∈ bs, (listed.setIfInBounds j true).getD d false = false := fun d hd => by
        have hjd : j ≠ d := fun e => hnb (e ▸ hd)
        rw [getD_set_ne false hjd]; exact hu d hd
      refine qOp_mono (fun a' h3 => ih (listed.setIfInBounds j true) a' hfree' hu' (ready_mono hr (Ne.symm hji)) h3.1 ?_) h2
      rw [Array.setIfInBounds_comm _ _ hji]
      exact h3.2

def lexC (md : Region.Mode) (ops : Array Oper) (c : Nat) : Nat → Nat → Array Bool → Bool
  | 0, _, listed => (Region.ready md ops listed).all fun i => decide (c ≤ i)
  | fuel + 1, k, listed => (Region.ready md ops listed).contains k && Region.free md ops listed k && decide (k < c) && blkB md ops c listed k && lexC md ops c fuel (k + 1) (listed.setIfInBounds k true)
/-- The array of what has come up: k operations more. -/
def listK : Nat → Nat → Array Bool → Array Bool
  | 0, _, listed => listed
  | n + 1, k, listed => listK n (k + 1) (listed.setIfInBounds k true)
theorem wpAnyM_lex {c m : Nat} (hs : Region.noSelect ops = true) : ∀ (l : List Oper) (k : Nat) (listed : Array Bool) (a : Act), (∀ j, j < l.length → l[j]? = ops[k + j]?) →
    lexC md ops c l.length k listed = true → wpQuiet P ops C (fun a' => ∀ w, C w → wpAny P md ops Q (m + 1) (listK l.length k listed) a' w) l a → wpAnyM P md ops C Q c (l.length + (m + 1)) listed a
  | [], _, listed, a, _, hB, h => by
    simp only [lexC, List.length_nil, List.all_eq_true, decide_eq_true_eq] at hB
    simp only [List.length_nil, Nat.zero_add]
    refine ⟨fun h0 w hw => (h w hw).1 h0, fun i hi => ?_⟩
    rw [if_neg (by have := hB i hi; omega)]
    exact fun w hw => (h w hw).2 i hi
  | o :: l, k, listed, a, hl, hB, h => by
    have h0 : ops[k]? = some o := by simpa using (hl 0 (by simp)).symm
    simp only [List.length_cons, lexC, Bool.and_eq_true, decide_eq_true_eq] at hB
    obtain ⟨⟨⟨⟨hr, hf⟩, hkc⟩, hb⟩, hB'⟩ := hB
    have hst : qOp P ops C k (wpQuiet P ops C (fun a' => ∀ w, C w → wpAny P md ops Q (m + 1) (listK (l.length + 1) k listed) a' w) l) a := by unfold qOp; simp only [h0]; exact h
    obtain ⟨v, hy, hK⟩ := yieldsIn_of_qOp h0 hst
    simp only [blkB, Bool.and_eq_true, List.all_eq_true, Bool.not_eq_true', List.mem_range, Bool.or_eq_true, decide_eq_true_eq, List.contains_iff_mem] at hb
    obtain ⟨hb1, hb2⟩ := hb
    have hlen : (o :: l).length + (m + 1) = (l.length + (m + 1)) + 1 := by simp only [List.length_cons]; omega
    rw [hlen]
    exact wpAnyM_first h0 hkc (Region.noSelect_spec hs) (fun d hd => (hb1 d hd).2) hb2 (l.length + (m + 1)) listed a (Region.free_spec h0 hf) (fun d hd => (hb1 d hd).1) (by simpa using hr) hy
      (wpAnyM_lex hs l (k + 1) _ _ (fun j hj => by have := hl (j + 1) (by simp; omega); simpa [Nat.add_assoc, Nat.add_comm 1 j] using this) hB' hK)

def pureO (o : Oper) : Bool := o.guard.isNone && match o.op with | .extract .. => true | .assign _ => true | .move _ => true | _ => false
def seqB (md : Region.Mode) (ops : Array Oper) : Nat → Nat → Array Bool → Bool
  | 0, _, listed => (Region.ready md ops listed).isEmpty
  | f + 1, k, listed => (Region.ready md ops listed == [k] || ((match ops[k]? with | some o => pureO o | none => false) && (Region.ready md ops listed).contains k && Region.free md ops listed k)) && seqB md ops f (k + 1) (listed.setIfInBounds k true)
theorem pure_yields {o : Oper} {a : Act} {w : World} {K : Act → World → Prop} (hp : pureO o = true) (h : o.wp P a w K Q) : ∃ v, Yields P ops o v a ∧ K (a.put o.dst v) w := by
  simp only [pureO, Bool.and_eq_true, Option.isNone_iff_eq_none] at hp
  obtain ⟨hg, hk⟩ := hp
  have hw : Region.wanted o (yielded ops a.tmps) = true := by simp [Region.wanted, hg]
  unfold Oper.wp at h
  cases hop : o.op <;> rw [hop] at hk <;> simp only [Bool.false_eq_true] at hk
  · rename_i x
    have he : ∀ w, (execOp a.eval o).run P w = .ok (.value (a.eval x)) w := fun w => by simp [execOp, hop]
    rw [he] at h
    exact ⟨_, .inl ⟨hw, he⟩, h⟩
  · rename_i x
    have he : ∀ w, (execOp a.eval o).run P w = .ok (.value (a.eval x)) w := fun w => by simp [execOp, hop]
    rw [he] at h
    exact ⟨_, .inl ⟨hw, he⟩, h⟩
  · rename_i x i
    have he : ∀ w, (execOp a.eval o).run P w = (Instr.extract (a.eval x) i >>= fun v => pure (.value v)).run P w := fun w => by simp [execOp, hop]
    rw [he] at h
    unfold Instr.extract at h he
    split at h
    · rename_i vs hvs
      split at h
      · rename_i v hv
        have he2 : ∀ w, (execOp a.eval o).run P w = .ok (.value v) w := fun w => by rw [he, hvs]; simp [hv]
        exact ⟨v, .inl ⟨hw, he2⟩, by simpa [Oper.upon] using h⟩
      · simp [stuck, Oper.upon] at h
    · simp [stuck, Oper.upon] at h
theorem wpAny_seq (hs : Region.noSelect ops = true) (hQ : ∀ c d v a w, Q (.panic c) (Act.put a d v) w → Q (.panic c) a w) (hL : ∀ a w, ¬ Q .outgrown a w) : ∀ (l : List Oper) (k : Nat) (listed : Array Bool) (a : Act) (w : World), (∀ j, l[j]? = ops[k + j]?) →
    seqB md ops l.length k listed = true → wpList P ops Q l a w → wpAny P md ops Q l.length listed a w
  | [], _, listed, _, _, _, hB, h => ⟨by simpa [seqB] using hB, h⟩
  | o :: l, k, listed, a, w, hl, hB, h => by
    have h0 : ops[k]? = some o := by simpa using (hl 0).symm
    simp only [List.length_cons, seqB, Bool.and_eq_true, Bool.or_eq_true, beq_iff_eq] at hB
    obtain ⟨hB1, hB2⟩ := hB
    have hrec : ∀ a' w', wpList P ops Q l a' w' → wpAny P md ops Q l.length (listed.setIfInBounds k true) a' w' := fun a' w' h' =>
      wpAny_seq hs hQ hL l (k + 1) _ _ _ (fun j => by have := hl (j + 1); simpa [Nat.add_assoc, Nat.add_comm 1 j] using this) hB2 h'
    have hop : wpOp P ops Q k (wpList P ops Q l) a w := by unfold wpOp; simp only [h0]; exact h
    rcases hB1 with hr | ⟨⟨hp, hr⟩, hf⟩
    · refine ⟨fun he => (by rw [hr] at he; cases he), fun i hi => ?_⟩
      rw [hr, List.mem_singleton] at hi
      subst hi
      exact wpOp_mono hrec hop
    · simp only [h0] at hp
      have hg : o.guard = none := by simp only [pureO, Bool.and_eq_true, Option.isNone_iff_eq_none] at hp; exact hp.1
      have hw : Region.wanted o (yielded ops a.tmps) = true := by simp [Region.wanted, hg]
      unfold wpList at h
      rw [if_pos hw] at h
      have h1 := h.resolve_right fun hh => by obtain ⟨_, a', w', hq⟩ := hh; exact hL a' w' hq
      obtain ⟨v, hy, hK⟩ := pure_yields (ops := ops) hp h1
      exact wpAny_first h0 (Region.noSelect_spec hs) (fun c a w => hQ c _ _ a w) l.length listed a w (Region.free_spec h0 hf) (by simpa using hr) hy (hrec _ _ hK)

theorem wpQuiet_mono' {Q1 Q2 : Act → Prop} (h : ∀ a, Q1 a → Q2 a) : ∀ (l : List Oper) (a : Act), wpQuiet P ops C Q1 l a → wpQuiet P ops C Q2 l a
  | [], a, hh => h a hh
  | o :: l, a, hh => by
    unfold wpQuiet at hh ⊢
    split
    · rename_i hw; rw [if_pos hw] at hh; exact Oper.quiet_mono (fun a' => wpQuiet_mono' h l a') hh
    · rename_i hw; rw [if_neg hw] at hh; exact wpQuiet_mono' h l _ hh
/-- A region: one move, a part that is quiet, a part whose order is forced. -/
theorem wp_region_then {id : Nat} {a : Act} {w : World} (o0 o1 : Oper) (l1 l2 : List Oper) (hm : P.follows .mixedOrders = true)
    (hs : Region.noSelect (o0 :: (l1 ++ o1 :: l2)).toArray = true) (hp : pureO o0 = true) (hf : Region.free .any (o0 :: (l1 ++ o1 :: l2)).toArray (Array.replicate (o0 :: (l1 ++ o1 :: l2)).length false) 0 = true)
    (hr : (Region.ready .any (o0 :: (l1 ++ o1 :: l2)).toArray (Array.replicate (o0 :: (l1 ++ o1 :: l2)).length false)).contains 0 = true)
    (hB : lexC .any (o0 :: (l1 ++ o1 :: l2)).toArray (1 + l1.length) l1.length 1 ((Array.replicate (o0 :: (l1 ++ o1 :: l2)).length false).setIfInBounds 0 true) = true)
    (hC2 : seqB .any (o0 :: (l1 ++ o1 :: l2)).toArray (l2.length + 1) (1 + l1.length) (listK l1.length 1 ((Array.replicate (o0 :: (l1 ++ o1 :: l2)).length false).setIfInBounds 0 true)) = true)
    (hL : ∀ a w, ¬ Q .outgrown a w) (C : World → Prop) (hC : C w.drew) {u : Value} (hu : ∀ w', (execOp a.eval o0).run P w' = .ok (.value u) w')
    (h : wpQuiet P (o0 :: (l1 ++ o1 :: l2)).toArray C (fun a' => ∀ w', C w' → wpList P (o0 :: (l1 ++ o1 :: l2)).toArray (NoPanic Q) (o1 :: l2) a' w') l1 (a.put o0.dst u)) :
    (Code.region id (o0 :: (l1 ++ o1 :: l2)).toArray true).wp P Q a w := by
  refine wp_region_noPanic (wp_region_any hm ?_)
  have hsz : (o0 :: (l1 ++ o1 :: l2)).toArray.size = (l1.length + (l2.length + 1)) + 1 := by simp
  have hlen : (o0 :: (l1 ++ o1 :: l2)).length = (l1.length + (l2.length + 1)) + 1 := by simp
  rw [hlen] at hf hr hB hC2
  rw [hsz]
  have hg : o0.guard = none := by simp only [pureO, Bool.and_eq_true, Option.isNone_iff_eq_none] at hp; exact hp.1
  have hw : Region.wanted o0 (yielded (o0 :: (l1 ++ o1 :: l2)).toArray a.tmps) = true := by simp [Region.wanted, hg]
  have hQ' : ∀ c d v a w, NoPanic Q (.panic c) (Act.put a d v) w → NoPanic Q (.panic c) a w := fun _ _ _ _ _ h => h
  have hget : ∀ j, (l1 ++ o1 :: l2)[j]? = (o0 :: (l1 ++ o1 :: l2)).toArray[1 + j]? := fun j => by
    rw [Nat.add_comm]; simp
  refine wpAny_first (i := 0) (oi := o0) (by simp) (Region.noSelect_spec hs) (fun c a w => hQ' c _ _ a w) _ _ a _ (Region.free_spec (by simp) hf) (by simpa using hr) (.inl ⟨hw, hu⟩) ?_
  refine wpAny_of_M (C := C) (c := 1 + l1.length) _ _ _ _ hC ?_
  refine wpAnyM_lex (m := l2.length) hs l1 1 _ _ (fun j hj => by rw [← hget j, List.getElem?_append_left hj]) hB ?_
  refine wpQuiet_mono' (fun a' h' w' hw' => ?_) l1 _ h
  refine wpAny_seq hs hQ' (fun a w hq => hL a w hq) (o1 :: l2) (1 + l1.length) _ a' w' (fun j => ?_) hC2 (h' w' hw')
  rw [Nat.add_assoc, ← hget (l1.length + j), List.getElem?_append_right (by omega)]
  congr 1; omega
/-- The same, the region's operations written out: the first is a move, the next n are quiet. -/
theorem wp_region_cut {id : Nat} {a : Act} {w : World} {L : List Oper} (n : Nat) {o0 o1 : Oper} {T l1 l2 : List Oper} (hm : P.follows .mixedOrders = true) (h0 : L = o0 :: T) (h1 : T.take n = l1) (h2 : T.drop n = o1 :: l2)
    (hs : Region.noSelect L.toArray = true) (hp : pureO o0 = true) (hf : Region.free .any L.toArray (Array.replicate L.length false) 0 = true)
    (hr : (Region.ready .any L.toArray (Array.replicate L.length false)).contains 0 = true)
    (hB : lexC .any L.toArray (1 + n) n 1 ((Array.replicate L.length false).setIfInBounds 0 true) = true)
    (hC2 : seqB .any L.toArray (T.length - n) (1 + n) (listK n 1 ((Array.replicate L.length false).setIfInBounds 0 true)) = true)
    (hL : ∀ a w, ¬ Q .outgrown a w) {u : Value} (hu : ∀ w', (execOp a.eval o0).run P w' = .ok (.value u) w')
    (h : wpQuiet P L.toArray (fun w' => ∃ n, w' = w.drewN n) (fun a' => ∀ w', (∃ n, w' = w.drewN n) → wpList P L.toArray (NoPanic Q) (o1 :: l2) a' w') l1 (a.put o0.dst u)) :
    (Code.region id L.toArray true).wp P Q a w := by
  have hT : T = l1 ++ o1 :: l2 := by rw [← h1, ← h2, List.take_append_drop]
  have hle : n ≤ T.length := by
    rcases Nat.lt_or_ge T.length n with hh | hh
    · rw [List.drop_of_length_le (by omega)] at h2; cases h2
    · exact hh
  have hn : l1.length = n := by rw [← h1, List.length_take]; omega
  have hl2 : T.length - n = l2.length + 1 := by rw [hT, List.length_append, List.length_cons, hn]; omega
  subst h0
  rw [hl2] at hC2
  subst hT
  subst hn
  exact wp_region_then o0 o1 l1 l2 hm hs hp hf hr hB hC2 hL _ ⟨1, rfl⟩ hu h
end
end Go.Proofs.YtdfkbbcoolgfiaaGreat

/- Blocks between two numbers are kept while a row that lies elsewhere is written. -/
namespace Go.Proofs.YtdfkbbcoolgfiaaGreat
open Go.RowKit

/-- The blocks from lo up to hi are as they were. -/
def Mid (lo hi : Nat) (w wi : World) : Prop := hi ≤ wi.heap.size ∧ ∀ b, lo ≤ b → b < hi → wi.heap[b]? = w.heap[b]?
/-- A slice's own row lies in none of the blocks from lo up to hi. -/
def Off (lo hi : Nat) (v : Value) : Prop := ∀ k, v.ownBlock = some k → k < lo ∨ hi ≤ k

section
variable {lo hi : Nat} {w wi w' : World} {v v' : Value}
theorem Mid.refl (lo : Nat) (w : World) : Mid lo w.heap.size w w := ⟨Nat.le_refl _, fun _ _ _ => rfl⟩
theorem Mid.bel (h : Mid lo hi w wi) (hb : Below wi.heap.size wi w') : Mid lo hi w w' := ⟨Nat.le_trans h.1 hb.size, fun b h1 h2 => (hb.block b (Nat.lt_of_lt_of_le h2 h.1)).trans (h.2 b h1 h2)⟩
theorem Mid.grown (h : Mid lo hi w wi) (ho : Off lo hi v) (hg : wi.grownBy w' v.ownBlock) : Mid lo hi w w' :=
  ⟨Nat.le_trans h.1 hg.size, fun b h1 h2 => (hg.block b (Nat.lt_of_lt_of_le h2 h.1) (fun e => by have := ho b e.symm; omega)).trans (h.2 b h1 h2)⟩
theorem Off.next (h : Off lo hi v) (hat : v'.ownBlock = v.ownBlock ∨ v'.ownBlock = some wi.heap.size) (hm : hi ≤ wi.heap.size) : Off lo hi v' := by
  intro k hk
  rcases hat with e | e
  · exact h k (e ▸ hk)
  · rw [e] at hk; injection hk with hk; exact .inr (by omega)
theorem Off.nil : Off lo hi (.slice none 0 0) := fun k hk => by simp [Value.ownBlock] at hk
theorem Mid.cell (h : Mid lo hi w wi) {b o : Nat} (h1 : lo ≤ b) (h2 : b < hi) : wi.cell? ⟨b, o, none⟩ = w.cell? ⟨b, o, none⟩ := World.cell?_of_block (a := ⟨b, o, none⟩) (h.2 b h1 h2)
theorem Mid.own {base : Nat} {e : TypeId} {s n : Nat} {xs : List Value} (h : Mid lo w.heap.size w wi) (hl : lo ≤ base) (ho : w.ownsRow base e s v n xs) : wi.ownsRow base e s v n xs := by
  refine ⟨ho.1, ?_⟩
  rcases ho.2 with h0 | ⟨g, cap, cur, hv, hb, hg, rest⟩
  · exact .inl h0
  · exact .inr ⟨g, cap, cur, hv, hb, (h.2 g (by omega) (Array.getElem?_eq_some_iff.1 hg).1).trans hg, rest⟩
/-- A row among the blocks that were there lies in none of those that came later. -/
theorem Off.old {base : Nat} {e : TypeId} {s n : Nat} {xs : List Value} (ho : w.ownsRow base e s v n xs) (hi : Nat) : Off w.heap.size hi v := fun k hk => .inl (ho.lt k hk).2
/-- A box that was laid ahead of an append onto an older row is kept. -/
theorem box_kept {w w3 : World} {cs : Array Value} {t e : TypeId} {o : Obj} {A : Option Addr} {m c B s : Nat} {xs : List Value} (hown : w.ownsRow B e s (.slice A m c) m xs)
    (hg : ((w.alloc (.cells cs t)).alloc o).grownBy w3 (Value.ownBlock (.slice A m c))) (i : Nat) : w3.cell? ⟨w.heap.size, i, none⟩ = cs[i]? := by
  have hmd := ((Mid.refl w.heap.size (w.alloc (.cells cs t))).bel (bal (Below.refl _ _) o)).grown (Off.old hown _) hg
  exact (hmd.cell (Nat.le_refl _) (by simp)).trans (new_cell _ i)
end

end Go.Proofs.YtdfkbbcoolgfiaaGreat

/- The plain side of the reference's pieces. -/
namespace Go.Proofs.YtdfkbbcoolgfiaaGreat

/-- May one piece be, by itself? -/
def pieceB (s : Sg) : Bool :=
  ((s.kind == 1 || s.kind == 2) && (co s.x && co s.y && s.cx == 0 && s.cy == 0)) || (s.kind == 3 && (co s.x && co s.y && (co s.cx && co s.cy))) || (s.kind == 4 && (s.x == 0 && s.y == 0 && s.cx == 0 && s.cy == 0))

theorem rightB_iff {s : Sg} {last : Int} : rightB s last = true ↔ pieceB s = true ∧ ((s.kind = 1 ∧ last ≠ 1) ∨ (s.kind ≠ 1 ∧ last ≠ 0 ∧ last ≠ 4)) := by
  have h0 : co 0 = true := by decide
  unfold rightB pieceB nearB
  by_cases h1 : s.kind = 1
  · simp [h1, and_assoc]
    intro _ _
    constructor
    · rintro ⟨c, d, e, f, g⟩; exact ⟨e, f, g⟩
    · rintro ⟨e, f, g⟩; rw [e, f]; exact ⟨h0, h0, rfl, rfl, g⟩
  · by_cases h2 : s.kind = 2
    · simp [h2, and_assoc]
      intro _ _
      constructor
      · rintro ⟨c, d, e, f, g⟩; exact ⟨e, f, g⟩
      · rintro ⟨e, f, g⟩; rw [e, f]; exact ⟨h0, h0, rfl, rfl, g⟩
    · by_cases h3 : s.kind = 3
      · simp [h3, and_assoc]
      · by_cases h4 : s.kind = 4
        · simp [h4, and_assoc]
          constructor
          · rintro ⟨a, b, c, d, e, f, g, h, i, j⟩; exact ⟨i, j, e, f, g, h⟩
          · rintro ⟨i, j, e, f, g, h⟩; rw [e, f, i, j]; exact ⟨h0, h0, h0, h0, rfl, rfl, g, h, rfl, rfl⟩
        · simp [h1, h2, h3, h4]

theorem pieceB_kind {s : Sg} (h : pieceB s = true) : 1 ≤ s.kind ∧ s.kind ≤ 4 := by
  unfold pieceB at h
  simp at h
  omega

end Go.Proofs.YtdfkbbcoolgfiaaGreat

/- The plain side of contours. -/
namespace Go.Proofs.YtdfkbbcoolgfiaaGreat

/-- A contour: from x, y on. -/
structure Ct where
  x : Int
  y : Int
  es : List Ed
  shut : Bool
deriving DecidableEq, Inhabited

/-- The last one turned. -/
def modLast {α : Type} (f : α → α) : List α → List α
  | [] => []
  | [c] => [f c]
  | c :: d :: l => c :: modLast f (d :: l)
/-- What a piece does: the contours so far, the place. -/
def ctStep (st : List Ct × Int × Int) (s : Sg) : List Ct × Int × Int :=
  if s.kind = 1 then (st.1 ++ [⟨s.x, s.y, [], false⟩], s.x, s.y)
  else if s.kind = 4 then (modLast (fun c => { c with shut := true }) st.1, st.2.1, st.2.2)
  else (modLast (fun c => { c with es := c.es ++ [⟨st.2.1, st.2.2, s.kind == 3, s.cx, s.cy, s.x, s.y⟩] }) st.1, s.x, s.y)
def ctTo (l : List Sg) : List Ct × Int × Int := l.foldl ctStep ([], 0, 0)
/-- The contours of a path. -/
def ctsL (l : List Sg) : List Ct := if mayB l = false then [] else (ctTo l).1

theorem modLast_snoc {α : Type} (f : α → α) (l : List α) (c : α) : modLast f (l ++ [c]) = l ++ [f c] := by
  induction l with
  | nil => rfl
  | cons a l ih =>
    cases l with
    | nil => rfl
    | cons b l => rw [List.cons_append, List.cons_append]; simp only [modLast]; rw [← List.cons_append, ih]; rfl
theorem modLast_ne {α : Type} (f : α → α) (l : List α) (h : l ≠ []) : modLast f l ≠ [] := by
  cases l with
  | nil => exact absurd rfl h
  | cons a l => cases l <;> simp [modLast]
theorem modLast_length {α : Type} (f : α → α) (l : List α) : (modLast f l).length = l.length := by
  induction l with
  | nil => rfl
  | cons a l ih =>
    cases l with
    | nil => rfl
    | cons b l => simp only [modLast, List.length_cons] at *; omega
theorem snoc_of_ne {α : Type} (l : List α) (h : l ≠ []) : ∃ a c, l = a ++ [c] := ⟨l.dropLast, l.getLast h, (List.dropLast_concat_getLast h).symm⟩

theorem ctTo_take (l : List Sg) (k : Nat) (h : k < l.length) : ctTo (l.take (k + 1)) = ctStep (ctTo (l.take k)) l[k] := by
  unfold ctTo
  rw [List.take_succ_eq_append_getElem h, List.foldl_append]; rfl
theorem ctStep_ne (st : List Ct × Int × Int) (s : Sg) (h : st.1 ≠ [] ∨ s.kind = 1) : (ctStep st s).1 ≠ [] := by
  unfold ctStep
  split
  · simp
  · rename_i h1
    have h2 : st.1 ≠ [] := h.resolve_right h1
    split
    · exact modLast_ne _ _ h2
    · exact modLast_ne _ _ h2

/-- At each place of a valid path: the piece may be behind the one ahead. -/
theorem may_at : ∀ (l : List Sg) (a : Int) (k : Nat) (h : k < l.length), mayFrom a l = true → rightB l[k] (if h0 : 0 < k then (l[k - 1]'(by omega)).kind else a) = true
  | s :: l, a, 0, _, hm => by
    simp only [mayFrom, Bool.and_eq_true] at hm
    simpa using hm.1
  | s :: l, a, k + 1, h, hm => by
    simp only [mayFrom, Bool.and_eq_true] at hm
    have := may_at l s.kind k (by simpa using h) hm.2
    cases k with
    | zero => simpa using this
    | succ k => simpa using this
theorem mayB_from {l : List Sg} (h : mayB l = true) : mayFrom 0 l = true ∧ l.length ≤ 300 := by
  simp [mayB] at h; exact ⟨h.2, h.1⟩
/-- What is known of a piece that is no Move: there is one ahead, and it is no Close. -/
theorem may_inner {l : List Sg} (h : mayB l = true) (k : Nat) (hk : k < l.length) (h1 : l[k].kind ≠ 1) : ∃ h0 : 0 < k, (l[k - 1]'(by omega)).kind ≠ 4 := by
  have := may_at l 0 k hk (mayB_from h).1
  rw [rightB_iff] at this
  rcases this.2 with ⟨h2, _⟩ | ⟨_, h2, h3⟩
  · exact absurd h2 h1
  · by_cases h0 : 0 < k
    · rw [dif_pos h0] at h3; exact ⟨h0, h3⟩
    · rw [dif_neg h0] at h2; exact absurd rfl h2
theorem may_kind {l : List Sg} (h : mayB l = true) (k : Nat) (hk : k < l.length) : 1 ≤ l[k].kind ∧ l[k].kind ≤ 4 := by
  have := may_at l 0 k hk (mayB_from h).1
  rw [rightB_iff] at this
  exact pieceB_kind this.1
theorem may_piece {l : List Sg} (h : mayB l = true) (k : Nat) (hk : k < l.length) : pieceB l[k] = true := by
  have := may_at l 0 k hk (mayB_from h).1
  rw [rightB_iff] at this
  exact this.1
theorem ct_ne {l : List Sg} (h : mayB l = true) : ∀ k, 0 < k → k ≤ l.length → (ctTo (l.take k)).1 ≠ []
  | 0, h0, _ => absurd h0 (by omega)
  | k + 1, _, hk => by
    rw [ctTo_take l k (by omega)]
    apply ctStep_ne
    by_cases h1 : l[k].kind = 1
    · exact .inr h1
    · obtain ⟨h0, _⟩ := may_inner h k (by omega) h1
      exact .inl (ct_ne h k h0 (by omega))
theorem ct_len (l : List Sg) : (ctTo l).1.length ≤ l.length := by
  have : ∀ (l : List Sg) (st : List Ct × Int × Int), (l.foldl ctStep st).1.length ≤ st.1.length + l.length := by
    intro l
    induction l with
    | nil => intro st; simp
    | cons s l ih =>
      intro st
      rw [List.foldl_cons, List.length_cons]
      have h1 := ih (ctStep st s)
      have h2 : (ctStep st s).1.length ≤ st.1.length + 1 := by
        unfold ctStep
        split
        · simp
        · split
          · simp only [modLast_length]; omega
          · simp only [modLast_length]; omega
      omega
  simpa [ctTo] using this l ([], 0, 0)

theorem mem_modLast {α : Type} (f : α → α) (l : List α) (x : α) (h : x ∈ modLast f l) : x ∈ l ∨ ∃ c ∈ l, x = f c := by
  by_cases hl : l = []
  · subst hl; simp [modLast] at h
  · obtain ⟨a, c, rfl⟩ := snoc_of_ne l hl
    rw [modLast_snoc, List.mem_append, List.mem_singleton] at h
    rcases h with h | rfl
    · exact .inl (by simp [h])
    · exact .inr ⟨c, by simp, rfl⟩
theorem ct_es (l : List Sg) : ∀ c ∈ (ctTo l).1, c.es.length ≤ l.length := by
  have : ∀ (l : List Sg) (st : List Ct × Int × Int) (b : Nat), (∀ c ∈ st.1, c.es.length ≤ b) → ∀ c ∈ (l.foldl ctStep st).1, c.es.length ≤ b + l.length := by
    intro l
    induction l with
    | nil => intro st b h c hc; simpa using h c hc
    | cons s l ih =>
      intro st b h c hc
      rw [List.foldl_cons] at hc
      have := ih (ctStep st s) (b + 1) (fun d hd => by
        unfold ctStep at hd
        split at hd
        · rw [List.mem_append, List.mem_singleton] at hd
          rcases hd with hd | rfl
          · have := h d hd; omega
          · simp
        · split at hd
          · rcases mem_modLast _ _ _ hd with hd | ⟨e, he, rfl⟩
            · have := h d hd; omega
            · have := h e he; simp only; omega
          · rcases mem_modLast _ _ _ hd with hd | ⟨e, he, rfl⟩
            · have := h d hd; omega
            · have := h e he; simp only [List.length_append, List.length_singleton]; omega) c hc
      simp only [List.length_cons]; omega
  intro c hc
  have := this l ([], 0, 0) 0 (fun c hc => by simp at hc) c hc
  omega

end Go.Proofs.YtdfkbbcoolgfiaaGreat

/- Contours in memory: a row of contours, each with a row of edges of its own. -/
namespace Go.Proofs.YtdfkbbcoolgfiaaGreat
open Go.RowKit

/-- A contour's cells; its edges are a slice value. -/
def cvc (p : Ct × Value) : List Value := [.int .i64 p.1.x, .int .i64 p.1.y, p.2, .bool p.1.shut]
def cvs (ps : List (Ct × Value)) : List Value := ps.flatMap cvc
theorem cvs_len (ps : List (Ct × Value)) : (cvs ps).length = ps.length * 4 := len_flat cvc 4 (fun _ => rfl) ps
theorem cvs_snoc (a : List (Ct × Value)) (p : Ct × Value) : cvs (a ++ [p]) = cvs a ++ cvc p := by simp [cvs]

/-- Each contour owns its edges' row; no two rows are one. -/
def Cvs (w : World) (B : Nat) (E : TypeId) (ps : List (Ct × Value)) : Prop :=
  (∀ p ∈ ps, w.ownsRow B E 7 p.2 p.1.es.length (eds p.1.es)) ∧ ps.Pairwise (fun p q => ∀ k, p.2.ownBlock = some k → q.2.ownBlock ≠ some k)

section
variable {w w' : World} {B : Nat} {E T : TypeId} {ps a : List (Ct × Value)}
theorem Cvs.nil : Cvs w B E [] := ⟨fun p hp => by simp at hp, List.Pairwise.nil⟩
theorem Cvs.below (h : Cvs w B E ps) (hb : Below w.heap.size w w') : Cvs w' B E ps := ⟨fun p hp => own_below (h.1 p hp) hb, h.2⟩
theorem Cvs.mono {B' : Nat} (h : Cvs w B E ps) (hb : B' ≤ B) : Cvs w B' E ps := ⟨fun p hp => own_mono (h.1 p hp) hb, h.2⟩
/-- Two owned rows of different types are two blocks. -/
theorem own_ne {s s' n n' : Nat} {v v' : Value} {xs xs' : List Value} {b b' : Nat} (h : w.ownsRow b E s v n xs) (h' : w.ownsRow b' T s' v' n' xs') (hne : E ≠ T) : v.ownBlock = none ∨ v.ownBlock ≠ v'.ownBlock := by
  rcases h.2 with ⟨rfl, _⟩ | ⟨g, cap, cur, rfl, _, hg, _⟩
  · exact .inl rfl
  · refine .inr fun e => ?_
    rcases h'.2 with ⟨rfl, _⟩ | ⟨g', cap', cur', rfl, _, hg', _⟩
    · simp [Value.ownBlock] at e
    · simp [Value.ownBlock] at e
      subst e
      rw [hg] at hg'
      injection hg' with hg'
      injection hg' with _ ht
      exact hne ht
/-- The contours' own row is written: their edges are kept. -/
theorem Cvs.out (h : Cvs w B E ps) {s n : Nat} {v : Value} {xs : List Value} {b : Nat} (ho : w.ownsRow b T s v n xs) (hne : E ≠ T) (hg : w.grownBy w' v.ownBlock) : Cvs w' B E ps :=
  ⟨fun p hp => (h.1 p hp).kept hg (own_ne (h.1 p hp) ho hne), h.2⟩
/-- A new contour without edges. -/
theorem Cvs.push (h : Cvs w B E ps) (x y : Int) : Cvs w B E (ps ++ [(⟨x, y, [], false⟩, .slice none 0 0)]) := by
  refine ⟨fun p hp => ?_, ?_⟩
  · rw [List.mem_append, List.mem_singleton] at hp
    rcases hp with hp | rfl
    · exact h.1 p hp
    · exact own_nil
  · rw [List.pairwise_append]
    exact ⟨h.2, List.pairwise_singleton _ _, fun p _ q hq k _ => by rw [List.mem_singleton] at hq; subst hq; simp [Value.ownBlock]⟩
/-- The last one's head is turned, its edges are not. -/
theorem Cvs.head {c c' : Ct} {v : Value} (h : Cvs w B E (a ++ [(c, v)])) (he : c'.es = c.es) : Cvs w B E (a ++ [(c', v)]) := by
  refine ⟨fun p hp => ?_, ?_⟩
  · rw [List.mem_append, List.mem_singleton] at hp
    rcases hp with hp | rfl
    · exact h.1 p (by simp [hp])
    · have := h.1 (c, v) (by simp); simp only at this ⊢; rw [he]; exact this
  · have h2 := h.2
    rw [List.pairwise_append] at h2 ⊢
    exact ⟨h2.1, List.pairwise_singleton _ _, fun p hp q hq => by rw [List.mem_singleton] at hq; subst hq; exact h2.2.2 p hp (c, v) (by simp)⟩
/-- The last one's edges grow. -/
theorem Cvs.grow {c c' : Ct} {v v' : Value} (h : Cvs w B E (a ++ [(c, v)])) (hg : w.grownBy w' v.ownBlock) (hat : v'.ownBlock = v.ownBlock ∨ v'.ownBlock = some w.heap.size)
    (hown : w'.ownsRow B E 7 v' c'.es.length (eds c'.es)) : Cvs w' B E (a ++ [(c', v')]) := by
  have h2 := h.2
  rw [List.pairwise_append] at h2
  refine ⟨fun p hp => ?_, ?_⟩
  · rw [List.mem_append, List.mem_singleton] at hp
    rcases hp with hp | rfl
    · have hd := h2.2.2 p hp (c, v) (by simp)
      refine (h.1 p (by simp [hp])).kept hg ?_
      cases hb : p.2.ownBlock with
      | none => exact .inl rfl
      | some k => exact .inr (fun e => hd k hb e.symm)
    · exact hown
  · rw [List.pairwise_append]
    refine ⟨h2.1, List.pairwise_singleton _ _, fun p hp q hq k hk => ?_⟩
    rw [List.mem_singleton] at hq; subst hq
    rcases hat with e | e
    · rw [e]; exact h2.2.2 p hp (c, v) (by simp) k hk
    · rw [e]
      have := ((h.1 p (by simp [hp])).lt k hk).2
      intro e'; injection e' with e'; omega
/-- The k-th contour's cells. -/
theorem Sl.ct {A : Option Addr} {n : Nat} (h : Sl w 4 A n (cvs ps)) (k : Nat) (hk : k < n) (hl : k < ps.length) :
    ∃ b off : Nat, A = some ⟨b, off, none⟩ ∧ b < w.heap.size ∧ w.cell? ⟨b, off + k * 4, none⟩ = some (.int .i64 ps[k].1.x) ∧ w.cell? ⟨b, off + k * 4 + 1, none⟩ = some (.int .i64 ps[k].1.y) ∧
      w.cell? ⟨b, off + k * 4 + 2, none⟩ = some ps[k].2 ∧ w.cell? ⟨b, off + k * 4 + 3, none⟩ = some (.bool ps[k].1.shut) := by
  obtain ⟨b, off, e, hb, hc⟩ := h.2 (by omega)
  have g : ∀ j u, j < 4 → (cvc ps[k])[j]? = some u → w.cell? ⟨b, off + k * 4 + j, none⟩ = some u := fun j u hj hu => by
    rw [Nat.add_assoc]; exact hc _ u (by rw [← hu]; exact get_flat cvc 4 (fun _ => rfl) ps k j hl hj)
  exact ⟨b, off, e, hb, g 0 _ (by omega) rfl, g 1 _ (by omega) rfl, g 2 _ (by omega) rfl, g 3 _ (by omega) rfl⟩
theorem Sl.ctlen {A : Option Addr} {n : Nat} (h : Sl w 4 A n (cvs ps)) : ps.length = n := by
  have := h.1; rw [cvs_len] at this; omega
/-- A store into the last contour. -/
theorem set_last {c c' : Ct} {v v' : Value} {j : Nat} {u : Value} (hj : j < 4) (hs : (cvc (c, v)).set j u = cvc (c', v')) : (cvs (a ++ [(c, v)])).set (a.length * 4 + j) u = cvs (a ++ [(c', v')]) := by
  rw [cvs_snoc, cvs_snoc, List.set_append_right _ _ (by rw [cvs_len]; omega), cvs_len]
  have : a.length * 4 + j - a.length * 4 = j := by omega
  rw [this, hs]
theorem oneCell_cvc (c : Ct) : ∀ u ∈ cvc (c, .slice none 0 0), u.oneCell' = true := by
  intro u hu; simp only [cvc, List.mem_cons, List.not_mem_nil, or_false] at hu; rcases hu with rfl | rfl | rfl | rfl <;> rfl
theorem own_addr {base : Nat} {e : TypeId} {s n c : Nat} {A : Option Addr} {xs : List Value} (h : w.ownsRow base e s (.slice A n c) n xs) (hn : 0 < n) : ∃ g, A = some ⟨g, 0, none⟩ ∧ base ≤ g ∧ g < w.heap.size := by
  rcases h.2 with ⟨_, h0⟩ | ⟨g, cap, cur, hv, hb, hg, _⟩
  · omega
  · simp only [Value.slice.injEq] at hv
    exact ⟨g, hv.1, hb, (Array.getElem?_eq_some_iff.1 hg).1⟩
/-- A slice reads as a list of contours. -/
def CtSl (w : World) (A : Option Addr) (n : Nat) (cs : List Ct) : Prop :=
  ∃ ps : List (Ct × Value), ps.map Prod.fst = cs ∧ Sl w 4 A n (cvs ps) ∧ ∀ p ∈ ps, ∃ Ae ce, p.2 = .slice Ae p.1.es.length ce ∧ Sl w 7 Ae p.1.es.length (eds p.1.es)
theorem CtSl.below {A : Option Addr} {n : Nat} {cs : List Ct} (h : CtSl w A n cs) (hb : Below w.heap.size w w') : CtSl w' A n cs := by
  obtain ⟨ps, h1, h2, h3⟩ := h
  exact ⟨ps, h1, h2.below hb, fun p hp => by obtain ⟨Ae, ce, e, hs⟩ := h3 p hp; exact ⟨Ae, ce, e, hs.below hb⟩⟩
theorem CtSl.drewN {A : Option Addr} {n : Nat} {cs : List Ct} (h : CtSl w A n cs) (q : Nat) : CtSl (w.drewN q) A n cs := h.below (bdrewN (Below.refl _ _) q)
theorem CtSl.of {b b' : Nat} {A : Option Addr} {c : Nat} (h : w.ownsRow b T 4 (.slice A ps.length c) ps.length (cvs ps)) (hc : Cvs w b' E ps) : CtSl w A ps.length (ps.map Prod.fst) :=
  ⟨ps, rfl, own_sl h, fun p hp => by
    have := hc.1 p hp
    obtain ⟨Ae, ce, e⟩ := own_form this
    rw [e] at this
    exact ⟨Ae, ce, e, own_sl this⟩⟩
theorem CtSl.len {A : Option Addr} {n : Nat} {cs : List Ct} (h : CtSl w A n cs) : cs.length = n := by
  obtain ⟨ps, rfl, h2, _⟩ := h
  rw [List.length_map]; exact h2.ctlen
theorem CtSl.get {A : Option Addr} {n : Nat} {cs : List Ct} (h : CtSl w A n cs) (k : Nat) (hk : k < n) (hl : k < cs.length) :
    ∃ (b off : Nat) (Ae : Option Addr) (ce : Nat), A = some ⟨b, off, none⟩ ∧ b < w.heap.size ∧ w.cell? ⟨b, off + k * 4, none⟩ = some (.int .i64 cs[k].x) ∧ w.cell? ⟨b, off + k * 4 + 1, none⟩ = some (.int .i64 cs[k].y) ∧
      w.cell? ⟨b, off + k * 4 + 2, none⟩ = some (.slice Ae cs[k].es.length ce) ∧ w.cell? ⟨b, off + k * 4 + 3, none⟩ = some (.bool cs[k].shut) ∧ Sl w 7 Ae cs[k].es.length (eds cs[k].es) := by
  obtain ⟨ps, rfl, h2, h3⟩ := h
  have hl' : k < ps.length := by simpa using hl
  obtain ⟨b, off, e, hb, c0, c1, c2, c3⟩ := h2.ct k hk hl'
  obtain ⟨Ae, ce, ev, hs⟩ := h3 ps[k] (List.getElem_mem hl')
  rw [ev] at c2
  have hm : (ps.map Prod.fst)[k] = ps[k].1 := by simp
  rw [hm]
  exact ⟨b, off, Ae, ce, e, hb, c0, c1, c2, c3, hs⟩
theorem map_snoc {c : Ct} {v : Value} : (a ++ [(c, v)]).map Prod.fst = a.map Prod.fst ++ [c] := by simp
theorem map_modLast (f : Ct → Ct) (a : List Ct) (c : Ct) : modLast f (a ++ [c]) = a ++ [f c] := modLast_snoc f a c
end

end Go.Proofs.YtdfkbbcoolgfiaaGreat

/- States, plainly: what may be. -/
namespace Go.Proofs.YtdfkbbcoolgfiaaGreat

/-- An object. -/
structure Ob where
  k : Int
  ex : Bool
  n : Int
  at_ : Int
  ln : Int
  s : ByteArray
/-- A clip. -/
structure Cl where
  p : List Sg
  rule : Int
/-- A state. -/
structure St where
  m : Mt
  p : List Sg
  cl : List Cl
  r : Int
  g : Int
  b : Int
  a : Int
  wide : Int
  cap : Int
  join : Int
  da : List Int
  ph : Int
  f : Ob
  sz : Int
def ruleB (r : Int) : Bool := r == 0 || r == 1
def inB (v low high : Int) : Bool := decide (low ≤ v) && decide (v ≤ high)
/-- The zero object. -/
def obZ (o : Ob) : Bool := o.k == 0 && !o.ex && o.n == 0 && o.at_ == 0 && o.ln == 0 && o.s.toList.isEmpty
/-- May an object of kind Dict be? -/
def dictB (o : Ob) : Bool := o.at_ == 0 && o.ln == 0 && o.s.toList.isEmpty && inB o.n 0 40000
def fontB (o : Ob) : Bool := obZ o || (o.k == 10 && dictB o)
def clB (c : Cl) : Bool := mayB c.p && ruleB c.rule
def clsB (l : List Cl) : Bool := decide (l.length ≤ 10) && l.all clB
def dashB (l : List Int) : Bool := decide (l.length ≤ 11) && l.all (fun d => inB d 0 1073741823) && (l.isEmpty || l.any fun d => decide (0 < d))
def restB (x : St) : Bool := inB x.wide 0 1073741823 && inB x.cap 0 2 && inB x.join 0 1 && inB x.ph 0 1073741823 && fixB x.sz
def mayS (x : St) : Bool := mtB x.m && mayB x.p && clsB x.cl && dashB x.da && fontB x.f && restB x
end Go.Proofs.YtdfkbbcoolgfiaaGreat

/- The plain side of flattening a path. -/
namespace Go.Proofs.YtdfkbbcoolgfiaaGreat

/-- A straight edge's piece. -/
def lnSg (e : Ed) : Sg := ⟨2, e.x1, e.y1, 0, 0⟩
/-- What becomes of one piece, behind a point. -/
def flatSeg (x y : Int) (s : Sg) : List Sg := if s.kind = 3 then (lns ⟨x, y, true, s.cx, s.cy, s.x, s.y⟩).map lnSg else [s]
def flatFrom : Int → Int → List Sg → List Sg
  | _, _, [] => []
  | x, y, s :: l => flatSeg x y s ++ flatFrom s.x s.y l
def flatL (l : List Sg) : List Sg := flatFrom 0 0 l
def lastX (l : List Sg) : Int := (l.getLast?.map Sg.x).getD 0
def lastY (l : List Sg) : Int := (l.getLast?.map Sg.y).getD 0
/-- The flat path, or the error. -/
def flatE (l : List Sg) : List Sg × Int := if mayB l = false then ([], 1) else if 300 < (flatL l).length then ([], 5) else (flatL l, 0)

theorem flatFrom_snoc (x y : Int) (l : List Sg) (s : Sg) : flatFrom x y (l ++ [s]) = flatFrom x y l ++ flatSeg ((l.getLast?.map Sg.x).getD x) ((l.getLast?.map Sg.y).getD y) s := by
  induction l generalizing x y with
  | nil => simp [flatFrom]
  | cons a l ih =>
    rw [List.cons_append, flatFrom, flatFrom, ih, List.append_assoc]
    congr 2
    cases l with
    | nil => simp
    | cons b l =>
      have h : ∃ z, (b :: l).getLast? = some z := ⟨_, List.getLast?_eq_some_getLast (by simp)⟩
      obtain ⟨z, hz⟩ := h
      simp only [List.getLast?_cons_cons, hz, Option.map_some, Option.getD_some]
theorem flatL_take (l : List Sg) (k : Nat) (h : k < l.length) : flatL (l.take (k + 1)) = flatL (l.take k) ++ flatSeg (lastX (l.take k)) (lastY (l.take k)) l[k] := by
  rw [List.take_succ_eq_append_getElem h]; exact flatFrom_snoc 0 0 _ _
theorem flatFrom_app (a b : List Sg) (x y : Int) : ∃ c, flatFrom x y (a ++ b) = flatFrom x y a ++ c := by
  induction a generalizing x y with
  | nil => exact ⟨_, rfl⟩
  | cons s a ih =>
    obtain ⟨c, hc⟩ := ih s.x s.y
    exact ⟨c, by rw [List.cons_append, flatFrom, flatFrom, hc, List.append_assoc]⟩
theorem flatL_app (a b : List Sg) : ∃ c, flatL (a ++ b) = flatL a ++ c := flatFrom_app a b 0 0
theorem flatL_take_le (l : List Sg) (k : Nat) : (flatL (l.take k)).length ≤ (flatL l).length := by
  obtain ⟨c, hc⟩ := flatL_app (l.take k) (l.drop k)
  rw [List.take_append_drop] at hc
  rw [hc]; simp
theorem lastX_take (l : List Sg) (k : Nat) (h : k < l.length) : lastX (l.take (k + 1)) = l[k].x := by
  unfold lastX; rw [List.take_succ_eq_append_getElem h, List.getLast?_append]; simp
theorem lastY_take (l : List Sg) (k : Nat) (h : k < l.length) : lastY (l.take (k + 1)) = l[k].y := by
  unfold lastY; rw [List.take_succ_eq_append_getElem h, List.getLast?_append]; simp
theorem lns_le (e : Ed) : (lns e).length ≤ 128 := by
  rw [lns_len]
  cases h : edOK e
  · rw [cntI_no h]; decide
  · cases hb : e.bent
    · rw [cntI_flat h hb]; decide
    · have := cntI_bd h hb; omega
theorem flatSeg_le (x y : Int) (s : Sg) : (flatSeg x y s).length ≤ 128 := by
  unfold flatSeg; split
  · rw [List.length_map]; exact lns_le _
  · simp
theorem flatL_bd (l : List Sg) : (flatL l).length ≤ 128 * l.length := by
  have : ∀ x y, (flatFrom x y l).length ≤ 128 * l.length := by
    induction l with
    | nil => intro x y; simp [flatFrom]
    | cons s l ih =>
      intro x y
      rw [flatFrom, List.length_append, List.length_cons]
      have := flatSeg_le x y s
      have := ih s.x s.y
      omega
  exact this 0 0
theorem lns_straight (e : Ed) (hb : e.bent = true) (i : Nat) (hi : i < (lns e).length) : (lns e)[i].bent = false := by
  cases h : edOK e
  · have := lns_no h; simp [this] at hi
  · have hl := lns_yes h hb
    simp only [hl]
    simp [lnsTo]

theorem flatE_over {l : List Sg} {k : Nat} (hok : mayB l = true) (h : 300 < (flatL (l.take k)).length) : flatE l = ([], 5) := by
  have := flatL_take_le l k
  simp [flatE, hok]; omega
theorem flatE_le (l : List Sg) : (flatE l).1.length ≤ 300 := by
  unfold flatE; split
  · simp
  · split
    · simp
    · simp only; omega
theorem flatE_all {l : List Sg} (hok : mayB l = true) (h : (flatL l).length ≤ 300) : flatE l = (flatL l, 0) := by
  simp [flatE, hok]; omega
theorem flatSeg_bow {x y : Int} {s : Sg} (h : s.kind = 3) : flatSeg x y s = (lns ⟨x, y, true, s.cx, s.cy, s.x, s.y⟩).map lnSg := by simp [flatSeg, h]
theorem map_take_snoc {α β : Type} (f : α → β) (l : List α) (j : Nat) (h : j < l.length) : (l.take (j + 1)).map f = (l.take j).map f ++ [f l[j]] := by
  rw [List.take_succ_eq_append_getElem h, List.map_append]; rfl

end Go.Proofs.YtdfkbbcoolgfiaaGreat

/- The plain side of what adds to a path: longer, Point, Start, Line, Bow, Shut, Join. -/
namespace Go.Proofs.YtdfkbbcoolgfiaaGreat

/-- A path and more, or the error. -/
def longL (l m : List Sg) : List Sg × Int := if 300 < l.length + m.length then ([], 5) else (l ++ m, 0)
/-- Where the last Move goes; 0, 0: there is none. -/
def lastMv (l : List Sg) : Int × Int := ((l.reverse.find? fun s => s.kind == 1).map fun s => (s.x, s.y)).getD (0, 0)
/-- Where a path is. -/
def ptL (l : List Sg) : Int × Int × Bool :=
  if l = [] ∨ mayB l = false then (0, 0, false) else if lastK l = 4 then ((lastMv l).1, (lastMv l).2, true) else (lastX l, lastY l, true)
def startL (l : List Sg) (x y : Int) : List Sg × Int :=
  if mayB l = false then ([], 1) else if nearB [x, y] = false then ([], 2) else longL (if lastK l = 1 then l.dropLast else l) [⟨1, x, y, 0, 0⟩]
def onL (l : List Sg) (s : Sg) : List Sg × Int :=
  if mayB l = false then ([], 1) else if l = [] then ([], 13) else if nearB [s.x, s.y, s.cx, s.cy] = false then ([], 2)
  else if lastK l = 4 then longL l [⟨1, (ptL l).1, (ptL l).2.1, 0, 0⟩, s] else longL l [s]
def shutL (l : List Sg) : List Sg × Int :=
  if mayB l = false then ([], 1) else if l = [] ∨ lastK l = 4 then longL l [] else longL l [⟨4, 0, 0, 0, 0⟩]
def joinL (l m : List Sg) : List Sg × Int :=
  if mayB l = false ∨ mayB m = false then ([], 1) else longL (if lastK l = 1 ∧ m ≠ [] then l.dropLast else l) m

theorem longL_len (l m : List Sg) : (longL l m).1.length ≤ 300 := by
  unfold longL; split
  · simp
  · simp only [List.length_append]; omega
theorem last_get {l : List Sg} (h : l.length - 1 < l.length) : lastK l = l[l.length - 1].kind ∧ lastX l = l[l.length - 1].x ∧ lastY l = l[l.length - 1].y := by
  unfold lastK lastX lastY
  rw [List.getLast?_eq_getElem?, List.getElem?_eq_getElem h]; exact ⟨rfl, rfl, rfl⟩
theorem lastMv_take {l : List Sg} {i : Nat} (h : i < l.length) : lastMv (l.take (i + 1)) = if l[i].kind = 1 then (l[i].x, l[i].y) else lastMv (l.take i) := by
  unfold lastMv
  rw [List.take_succ_eq_append_getElem h, List.reverse_append, List.reverse_singleton, List.singleton_append, List.find?_cons]
  by_cases hk : l[i].kind = 1
  · simp [hk]
  · have hb : (l[i].kind == 1) = false := by simpa using hk
    rw [if_neg hk]
    simp only [hb]
theorem may_first {l : List Sg} (h : mayB l = true) (h0 : 0 < l.length) : l[0].kind = 1 := by
  apply Classical.byContradiction
  intro hn
  have h1 := (mayB_from h).1
  cases l with
  | nil => simp at h0
  | cons s l =>
    simp only [mayFrom, Bool.and_eq_true] at h1
    have := rightB_iff.1 h1.1
    simp only [List.getElem_cons_zero] at hn
    rcases this.2 with ⟨a, _⟩ | ⟨_, b, _⟩
    · exact hn a
    · exact b rfl

end Go.Proofs.YtdfkbbcoolgfiaaGreat

/- The plain side of paths by numbers: valid, small, few. -/
namespace Go.Proofs.YtdfkbbcoolgfiaaGreat

/-- A piece's numbers lie on a small page or a little beyond. -/
def smallSg (s : Sg) : Prop := (-32 ≤ s.x ∧ s.x < 288) ∧ (-32 ≤ s.y ∧ s.y < 288) ∧ (-32 ≤ s.cx ∧ s.cx < 288) ∧ (-32 ≤ s.cy ∧ s.cy < 288)
/-- A piece may be behind one of some kind, is small, and no bow where none is wanted. -/
def Okd (s : Sg) (last : Int) (bows : Bool) : Prop := rightB s last = true ∧ smallSg s ∧ (bows = false → s.kind ≠ 3)
/-- What a path by numbers is. -/
def MadeOK (l : List Sg) (bows : Bool) : Prop := mayFrom 0 l = true ∧ l.length ≤ 12 ∧ (∀ s ∈ l, smallSg s) ∧ (bows = false → ∀ s ∈ l, s.kind ≠ 3)

theorem mayFrom_snoc (a : Int) (l : List Sg) (s : Sg) : mayFrom a (l ++ [s]) = (mayFrom a l && rightB s ((l.getLast?.map Sg.kind).getD a)) := by
  induction l generalizing a with
  | nil => simp [mayFrom]
  | cons b l ih =>
    rw [List.cons_append, mayFrom, mayFrom, ih, Bool.and_assoc]
    cases l with
    | nil => simp
    | cons c l =>
      obtain ⟨z, hz⟩ : ∃ z, (c :: l).getLast? = some z := ⟨_, List.getLast?_eq_some_getLast (by simp)⟩
      simp only [List.getLast?_cons_cons, hz, Option.map_some, Option.getD_some]
theorem MadeOK.nil (bows : Bool) : MadeOK [] bows := ⟨rfl, by simp, fun s hs => by simp at hs, fun _ s hs => by simp at hs⟩
theorem MadeOK.snoc {l : List Sg} {s : Sg} {bows : Bool} (h : MadeOK l bows) (hl : l.length < 12) (hs : Okd s (lastK l) bows) : MadeOK (l ++ [s]) bows := by
  obtain ⟨h1, h2, h3, h4⟩ := h
  refine ⟨?_, by simp; omega, fun t ht => ?_, fun hb t ht => ?_⟩
  · rw [mayFrom_snoc, h1, show (l.getLast?.map Sg.kind).getD 0 = lastK l from rfl, hs.1]; rfl
  · rw [List.mem_append, List.mem_singleton] at ht
    rcases ht with ht | rfl
    · exact h3 t ht
    · exact hs.2.1
  · rw [List.mem_append, List.mem_singleton] at ht
    rcases ht with ht | rfl
    · exact h4 hb t ht
    · exact hs.2.2 hb
theorem MadeOK.may {l : List Sg} {bows : Bool} (h : MadeOK l bows) : mayB l = true := by
  have := h.2.1
  simp [mayB, h.1]; omega

theorem z0 : (-32 : Int) ≤ 0 ∧ (0 : Int) < 288 := by decide
theorem co_small {v : Int} (h : -32 ≤ v ∧ v < 288) : co v = true := by simp [co]; omega
theorem okd_move {a b last : Int} {bows : Bool} (ha : -32 ≤ a ∧ a < 288) (hb : -32 ≤ b ∧ b < 288) (hl : last ≠ 1) : Okd ⟨1, a, b, 0, 0⟩ last bows :=
  ⟨rightB_iff.2 ⟨by simp [pieceB, co_small ha, co_small hb], .inl ⟨rfl, hl⟩⟩, ⟨ha, hb, z0, z0⟩, fun _ => by simp⟩
theorem okd_line {a b last : Int} {bows : Bool} (ha : -32 ≤ a ∧ a < 288) (hb : -32 ≤ b ∧ b < 288) (hl : last ≠ 0 ∧ last ≠ 4) : Okd ⟨2, a, b, 0, 0⟩ last bows :=
  ⟨rightB_iff.2 ⟨by simp [pieceB, co_small ha, co_small hb], .inr ⟨by simp, hl⟩⟩, ⟨ha, hb, z0, z0⟩, fun _ => by simp⟩
theorem okd_close {last : Int} {bows : Bool} (hl : last ≠ 0 ∧ last ≠ 4) : Okd ⟨4, 0, 0, 0, 0⟩ last bows :=
  ⟨rightB_iff.2 ⟨by decide, .inr ⟨by simp, hl⟩⟩, ⟨z0, z0, z0, z0⟩, fun _ => by simp⟩
theorem okd_bow {a b c d last : Int} (ha : -32 ≤ a ∧ a < 288) (hb : -32 ≤ b ∧ b < 288) (hc : -32 ≤ c ∧ c < 288) (hd : -32 ≤ d ∧ d < 288) (hl : last ≠ 0 ∧ last ≠ 4) : Okd ⟨3, a, b, c, d⟩ last true :=
  ⟨rightB_iff.2 ⟨by simp [pieceB, co_small ha, co_small hb, co_small hc, co_small hd], .inr ⟨by simp, hl⟩⟩, ⟨ha, hb, hc, hd⟩, fun h => by cases h⟩
theorem lastK_get (l : List Sg) (h : l.length - 1 < l.length) : lastK l = l[l.length - 1].kind := by
  unfold lastK
  rw [List.getLast?_eq_getElem?, List.getElem?_eq_getElem h]; rfl

end Go.Proofs.YtdfkbbcoolgfiaaGreat

/- The plain law of FlatNear: the lines lie in the box of their bow; their middles are near the bow. -/
namespace Go.Proofs.YtdfkbbcoolgfiaaGreat

theorem plc1_box {a b X C Y n k : Int} (hn : 1 ≤ n) (hk : 0 ≤ k ∧ k ≤ n) (hX : a ≤ X ∧ X ≤ b) (hC : a ≤ C ∧ C ≤ b) (hY : a ≤ Y ∧ Y ≤ b) : a ≤ plc1 X C Y k n ∧ plc1 X C Y k n ≤ b := by
  have hnn : 0 < n * n := Int.mul_pos (by omega) (by omega)
  have p1 : 0 ≤ (n - k) * (n - k) := Int.mul_nonneg (by omega) (by omega)
  have p2 : 0 ≤ k * (n - k) := Int.mul_nonneg (by omega) (by omega)
  have p3 : 0 ≤ k * k := Int.mul_nonneg (by omega) (by omega)
  have q1 : 0 ≤ (X - a) * ((n - k) * (n - k)) := Int.mul_nonneg (by omega) p1
  have q2 : 0 ≤ (C - a) * (k * (n - k)) := Int.mul_nonneg (by omega) p2
  have q3 : 0 ≤ (Y - a) * (k * k) := Int.mul_nonneg (by omega) p3
  have r1 : 0 ≤ (b - X) * ((n - k) * (n - k)) := Int.mul_nonneg (by omega) p1
  have r2 : 0 ≤ (b - C) * (k * (n - k)) := Int.mul_nonneg (by omega) p2
  have r3 : 0 ≤ (b - Y) * (k * k) := Int.mul_nonneg (by omega) p3
  have e1 : (X * (n - k) * (n - k) + 2 * C * k * (n - k) + Y * k * k) - a * (n * n) = (X - a) * ((n - k) * (n - k)) + 2 * ((C - a) * (k * (n - k))) + (Y - a) * (k * k) := by grind
  have e2 : b * (n * n) - (X * (n - k) * (n - k) + 2 * C * k * (n - k) + Y * k * k) = (b - X) * ((n - k) * (n - k)) + 2 * ((b - C) * (k * (n - k))) + (b - Y) * (k * k) := by grind
  exact rnd_between _ _ a b hnn (by omega) (by omega)

/-- Two times the square of n by a place is near two times the place's own sum. -/
theorem plc1_near (X C Y k n : Int) (hn : 1 ≤ n) : -(n * n) ≤ 2 * (n * n * plc1 X C Y k n) - 2 * (X * (n - k) * (n - k) + 2 * C * k * (n - k) + Y * k * k) ∧ 2 * (n * n * plc1 X C Y k n) - 2 * (X * (n - k) * (n - k) + 2 * C * k * (n - k) + Y * k * k) ≤ n * n := by
  have hnn : 0 < n * n := Int.mul_pos (by omega) (by omega)
  have := rnd_bd (X * (n - k) * (n - k) + 2 * C * k * (n - k) + Y * k * k) (n * n) hnn
  unfold plc1
  omega
theorem pw_ge (far : Int) (h : far ≤ 65536) : far ≤ 4 * (pw far * pw far) := by
  unfold pw; repeat (first | (split; · omega) | omega)

theorem mid_near {X C Y n i P Q : Int} (hn : 1 ≤ n) (hf : X - 2 * C + Y ≤ 4 * (n * n) ∧ -(X - 2 * C + Y) ≤ 4 * (n * n))
    (hP : -(n * n) ≤ 2 * (n * n * P) - 2 * (X * (n - i) * (n - i) + 2 * C * i * (n - i) + Y * i * i) ∧ 2 * (n * n * P) - 2 * (X * (n - i) * (n - i) + 2 * C * i * (n - i) + Y * i * i) ≤ n * n)
    (hQ : -(n * n) ≤ 2 * (n * n * Q) - 2 * (X * (n - (i + 1)) * (n - (i + 1)) + 2 * C * (i + 1) * (n - (i + 1)) + Y * (i + 1) * (i + 1)) ∧ 2 * (n * n * Q) - 2 * (X * (n - (i + 1)) * (n - (i + 1)) + 2 * C * (i + 1) * (n - (i + 1)) + Y * (i + 1) * (i + 1)) ≤ n * n) :
    (X * (2 * n - 2 * i - 1) * (2 * n - 2 * i - 1) + 2 * C * (2 * i + 1) * (2 * n - 2 * i - 1) + Y * (2 * i + 1) * (2 * i + 1)) - (P + Q) * 2 * n * n ≤ 8 * n * n ∧
      (P + Q) * 2 * n * n - (X * (2 * n - 2 * i - 1) * (2 * n - 2 * i - 1) + 2 * C * (2 * i + 1) * (2 * n - 2 * i - 1) + Y * (2 * i + 1) * (2 * i + 1)) ≤ 8 * n * n := by
  have e : X * (2 * n - 2 * i - 1) * (2 * n - 2 * i - 1) + 2 * C * (2 * i + 1) * (2 * n - 2 * i - 1) + Y * (2 * i + 1) * (2 * i + 1) - 2 * (X * (n - i) * (n - i) + 2 * C * i * (n - i) + Y * i * i) - 2 * (X * (n - (i + 1)) * (n - (i + 1)) + 2 * C * (i + 1) * (n - (i + 1)) + Y * (i + 1) * (i + 1)) = -(X - 2 * C + Y) := by grind
  have e2 : (P + Q) * 2 * n * n = 2 * (n * n * P) + 2 * (n * n * Q) := by grind
  have e3 : 8 * n * n = 8 * (n * n) := by grind
  have hnn : 0 < n * n := Int.mul_pos (by omega) (by omega)
  omega

/-- What FlatNear asks of one line. -/
def boxed (e f : Ed) : Prop :=
  (if e.bent then min (min e.x0 e.x1) e.cx ≤ f.x1 ∧ f.x1 ≤ max (max e.x0 e.x1) e.cx else min e.x0 e.x1 ≤ f.x1 ∧ f.x1 ≤ max e.x0 e.x1) ∧
    (if e.bent then min (min e.y0 e.y1) e.cy ≤ f.y1 ∧ f.y1 ≤ max (max e.y0 e.y1) e.cy else min e.y0 e.y1 ≤ f.y1 ∧ f.y1 ≤ max e.y0 e.y1)

theorem lnsTo_get (e : Ed) (n : Int) (k i : Nat) (h : i < (lnsTo e n k).length) : (lnsTo e n k)[i] = ⟨plcX e n i, plcY e n i, false, 0, 0, plcX e n (i + 1), plcY e n (i + 1)⟩ := by
  simp [lnsTo]
theorem plcX_at (e : Ed) (n : Int) (i : Nat) : plcX e n (i + 1) = plc1 e.x0 e.cx e.x1 ((i : Int) + 1) n := by simp [plcX]
theorem plcY_at (e : Ed) (n : Int) (i : Nat) : plcY e n (i + 1) = plc1 e.y0 e.cy e.y1 ((i : Int) + 1) n := by simp [plcY]

theorem plcX_near (e : Ed) (n : Int) (i : Nat) (hn : 1 ≤ n) :
    -(n * n) ≤ 2 * (n * n * plcX e n i) - 2 * (e.x0 * (n - i) * (n - i) + 2 * e.cx * i * (n - i) + e.x1 * i * i) ∧ 2 * (n * n * plcX e n i) - 2 * (e.x0 * (n - i) * (n - i) + 2 * e.cx * i * (n - i) + e.x1 * i * i) ≤ n * n := by
  by_cases h : i = 0
  · subst h
    have hnn : 0 < n * n := Int.mul_pos (by omega) (by omega)
    have : n * n * e.x0 = e.x0 * (n - ((0 : Nat) : Int)) * (n - ((0 : Nat) : Int)) + 2 * e.cx * ((0 : Nat) : Int) * (n - ((0 : Nat) : Int)) + e.x1 * ((0 : Nat) : Int) * ((0 : Nat) : Int) := by grind
    simp only [plcX, if_true]
    omega
  · have := plc1_near e.x0 e.cx e.x1 i n hn
    simp only [plcX, h, if_false]; exact this
theorem plcY_near (e : Ed) (n : Int) (i : Nat) (hn : 1 ≤ n) :
    -(n * n) ≤ 2 * (n * n * plcY e n i) - 2 * (e.y0 * (n - i) * (n - i) + 2 * e.cy * i * (n - i) + e.y1 * i * i) ∧ 2 * (n * n * plcY e n i) - 2 * (e.y0 * (n - i) * (n - i) + 2 * e.cy * i * (n - i) + e.y1 * i * i) ≤ n * n := by
  by_cases h : i = 0
  · subst h
    have hnn : 0 < n * n := Int.mul_pos (by omega) (by omega)
    have : n * n * e.y0 = e.y0 * (n - ((0 : Nat) : Int)) * (n - ((0 : Nat) : Int)) + 2 * e.cy * ((0 : Nat) : Int) * (n - ((0 : Nat) : Int)) + e.y1 * ((0 : Nat) : Int) * ((0 : Nat) : Int) := by grind
    simp only [plcY, if_true]
    omega
  · have := plc1_near e.y0 e.cy e.y1 i n hn
    simp only [plcY, h, if_false]; exact this

theorem lns_boxed {e : Ed} (h : edOK e = true) (i : Nat) (hi : i < (lns e).length) : boxed e (lns e)[i] := by
  cases hb : e.bent
  · have hl := lns_flat h hb
    have hs : (lns e)[i] = e := by
      have h1 : (lns e).length = 1 := by rw [hl]; rfl
      have h0 : i = 0 := by omega
      subst h0; simp [hl]
    rw [hs]; unfold boxed; simp only [hb, Bool.false_eq_true, if_false]; omega
  · have hl := lns_yes h hb
    have hn := cntI_bd h hb
    have hs : (lns e)[i] = ⟨plcX e (cntI e) i, plcY e (cntI e) i, false, 0, 0, plcX e (cntI e) (i + 1), plcY e (cntI e) (i + 1)⟩ := by
      simp only [hl]; exact lnsTo_get _ _ _ _ _
    have hi2 : i < (cntI e).toNat := by rw [← lns_len]; exact hi
    rw [hs]; unfold boxed; simp only [hb, if_true, plcX_at, plcY_at]
    have bx := plc1_box (a := min (min e.x0 e.x1) e.cx) (b := max (max e.x0 e.x1) e.cx) (X := e.x0) (C := e.cx) (Y := e.x1) (n := cntI e) (k := (i : Int) + 1) hn.1 (by omega) (by omega) (by omega) (by omega)
    have bY := plc1_box (a := min (min e.y0 e.y1) e.cy) (b := max (max e.y0 e.y1) e.cy) (X := e.y0) (C := e.cy) (Y := e.y1) (n := cntI e) (k := (i : Int) + 1) hn.1 (by omega) (by omega) (by omega) (by omega)
    exact ⟨bx, bY⟩

theorem plcX_range {e : Ed} {n a b : Int} (i : Nat) (hn : 1 ≤ n) (hi : (i : Int) ≤ n) (h0 : a ≤ e.x0 ∧ e.x0 ≤ b) (h1 : a ≤ e.cx ∧ e.cx ≤ b) (h2 : a ≤ e.x1 ∧ e.x1 ≤ b) : a ≤ plcX e n i ∧ plcX e n i ≤ b := by
  unfold plcX; split
  · exact h0
  · exact plc1_box hn (by omega) h0 h1 h2
theorem plcY_range {e : Ed} {n a b : Int} (i : Nat) (hn : 1 ≤ n) (hi : (i : Int) ≤ n) (h0 : a ≤ e.y0 ∧ e.y0 ≤ b) (h1 : a ≤ e.cy ∧ e.cy ≤ b) (h2 : a ≤ e.y1 ∧ e.y1 ≤ b) : a ≤ plcY e n i ∧ plcY e n i ≤ b := by
  unfold plcY; split
  · exact h0
  · exact plc1_box hn (by omega) h0 h1 h2
/-- Each line's ends lie where the edge's points lie. -/
theorem lns_range {e : Ed} {a b : Int} (h : edOK e = true) (hx0 : a ≤ e.x0 ∧ e.x0 ≤ b) (hx1 : a ≤ e.cx ∧ e.cx ≤ b) (hx2 : a ≤ e.x1 ∧ e.x1 ≤ b) (hy0 : a ≤ e.y0 ∧ e.y0 ≤ b) (hy1 : a ≤ e.cy ∧ e.cy ≤ b) (hy2 : a ≤ e.y1 ∧ e.y1 ≤ b) (i : Nat) (hi : i < (lns e).length) :
    (a ≤ (lns e)[i].x0 ∧ (lns e)[i].x0 ≤ b) ∧ (a ≤ (lns e)[i].y0 ∧ (lns e)[i].y0 ≤ b) ∧ (a ≤ (lns e)[i].x1 ∧ (lns e)[i].x1 ≤ b) ∧ (a ≤ (lns e)[i].y1 ∧ (lns e)[i].y1 ≤ b) := by
  cases hb : e.bent
  · have hl := lns_flat h hb
    have hs : (lns e)[i] = e := by
      have h1 : (lns e).length = 1 := by rw [hl]; rfl
      have h0 : i = 0 := by omega
      subst h0; simp [hl]
    rw [hs]; exact ⟨hx0, hy0, hx2, hy2⟩
  · have hl := lns_yes h hb
    have hn := cntI_bd h hb
    have hs : (lns e)[i] = ⟨plcX e (cntI e) i, plcY e (cntI e) i, false, 0, 0, plcX e (cntI e) (i + 1), plcY e (cntI e) (i + 1)⟩ := by
      simp only [hl]; exact lnsTo_get _ _ _ _ _
    have hi2 : i < (cntI e).toNat := by rw [← lns_len]; exact hi
    rw [hs]
    exact ⟨plcX_range i hn.1 (by omega) hx0 hx1 hx2, plcY_range i hn.1 (by omega) hy0 hy1 hy2, plcX_range (i + 1) hn.1 (by omega) hx0 hx1 hx2, plcY_range (i + 1) hn.1 (by omega) hy0 hy1 hy2⟩
theorem lns_count {e : Ed} (h : edOK e = true) : (lns e).length = 1 ∨ (lns e).length = 2 ∨ (lns e).length = 4 ∨ (lns e).length = 8 ∨ (lns e).length = 16 ∨ (lns e).length = 32 ∨ (lns e).length = 64 ∨ (lns e).length = 128 := by
  rw [lns_len]
  cases hb : e.bent
  · rw [cntI_flat h hb]; omega
  · rw [cntI_yes h hb]; have := pw_cases (farI e.x0 e.y0 e.cx e.cy e.x1 e.y1); omega

/-- What FlatNear asks of one line of a bow: its middle is near. -/
def midded (e f : Ed) (n : Int) (i : Int) : Prop :=
  ((e.x0 * (2 * n - 2 * i - 1) * (2 * n - 2 * i - 1) + 2 * e.cx * (2 * i + 1) * (2 * n - 2 * i - 1) + e.x1 * (2 * i + 1) * (2 * i + 1)) - (f.x0 + f.x1) * 2 * n * n ≤ 8 * n * n ∧
      (f.x0 + f.x1) * 2 * n * n - (e.x0 * (2 * n - 2 * i - 1) * (2 * n - 2 * i - 1) + 2 * e.cx * (2 * i + 1) * (2 * n - 2 * i - 1) + e.x1 * (2 * i + 1) * (2 * i + 1)) ≤ 8 * n * n) ∧
  ((e.y0 * (2 * n - 2 * i - 1) * (2 * n - 2 * i - 1) + 2 * e.cy * (2 * i + 1) * (2 * n - 2 * i - 1) + e.y1 * (2 * i + 1) * (2 * i + 1)) - (f.y0 + f.y1) * 2 * n * n ≤ 8 * n * n ∧
      (f.y0 + f.y1) * 2 * n * n - (e.y0 * (2 * n - 2 * i - 1) * (2 * n - 2 * i - 1) + 2 * e.cy * (2 * i + 1) * (2 * n - 2 * i - 1) + e.y1 * (2 * i + 1) * (2 * i + 1)) ≤ 8 * n * n)

theorem lns_midded {e : Ed} (h : edOK e = true) (hb : e.bent = true) (i : Nat) (hi : i < (lns e).length) : midded e (lns e)[i] (cntI e) i := by
  have hl := lns_yes h hb
  have hn := cntI_bd h hb
  have hs : (lns e)[i] = ⟨plcX e (cntI e) i, plcY e (cntI e) i, false, 0, 0, plcX e (cntI e) (i + 1), plcY e (cntI e) (i + 1)⟩ := by
    simp only [hl]; exact lnsTo_get _ _ _ _ _
  have hfar := cntI_yes h hb
  have hge := pw_ge (farI e.x0 e.y0 e.cx e.cy e.x1 e.y1) (by
    have := farI_le (x0 := e.x0) (y0 := e.y0) (cx := e.cx) (cy := e.cy) (x1 := e.x1) (y1 := e.y1) (by rw [edOK_iff] at h; exact edOK_mk h.1 h.2.1 h.2.2.1 h.2.2.2.1 h.2.2.2.2.1 h.2.2.2.2.2.1 (.inl rfl))
    omega)
  rw [← hfar] at hge
  have hfx : e.x0 - 2 * e.cx + e.x1 ≤ 4 * (cntI e * cntI e) ∧ -(e.x0 - 2 * e.cx + e.x1) ≤ 4 * (cntI e * cntI e) := by unfold farI sizeI at hge; omega
  have hfy : e.y0 - 2 * e.cy + e.y1 ≤ 4 * (cntI e * cntI e) ∧ -(e.y0 - 2 * e.cy + e.y1) ≤ 4 * (cntI e * cntI e) := by unfold farI sizeI at hge; omega
  rw [hs]
  have p1 := plcX_near e (cntI e) i hn.1
  have p2 := plcX_near e (cntI e) (i + 1) hn.1
  have q1 := plcY_near e (cntI e) i hn.1
  have q2 := plcY_near e (cntI e) (i + 1) hn.1
  rw [Int.natCast_succ] at p2 q2
  exact ⟨mid_near hn.1 hfx p1 p2, mid_near hn.1 hfy q1 q2⟩

theorem lns_cast {e : Ed} (h : edOK e = true) (hb : e.bent = true) : ((lns e).length : Int) = cntI e := by
  rw [lns_len]; have := cntI_bd h hb; omega

/-- A bow that bends more has no fewer lines. -/
theorem cnt_more {c : Int} (hc : 0 ≤ c ∧ c < 8000) : cntI ⟨0, 0, true, c, 0, 16, 0⟩ ≤ cntI ⟨0, 0, true, c + 40, 0, 16, 0⟩ := by
  have h1 : edOK ⟨0, 0, true, c, 0, 16, 0⟩ = true := edOK_mk (by omega) (by omega) (by omega) (by omega) (by omega) (by omega) (.inl rfl)
  have h2 : edOK ⟨0, 0, true, c + 40, 0, 16, 0⟩ = true := edOK_mk (by omega) (by omega) (by omega) (by omega) (by omega) (by omega) (.inl rfl)
  rw [cntI_yes h1 rfl, cntI_yes h2 rfl]
  have : farI 0 0 c 0 16 0 ≤ farI 0 0 (c + 40) 0 16 0 := by unfold farI sizeI; omega
  simp only
  unfold pw
  repeat' split
  all_goals omega

end Go.Proofs.YtdfkbbcoolgfiaaGreat

/- The plain law of FlatAgain: a flat path is valid, flat, and its contours are the path's. -/
namespace Go.Proofs.YtdfkbbcoolgfiaaGreat

theorem plc1_last (a c b n : Int) (hn : 1 ≤ n) : plc1 a c b n n = b := by
  have hnn : 0 < n * n := Int.mul_pos (by omega) (by omega)
  unfold plc1
  have : a * (n - n) * (n - n) + 2 * c * n * (n - n) + b * n * n = b * (n * n) := by grind
  rw [this]; exact rnd_exact b _ hnn
/-- The last line ends where the bow ends. -/
theorem lns_last {e : Ed} (h : edOK e = true) (hb : e.bent = true) : ∃ a z, lns e = a ++ [z] ∧ z.x1 = e.x1 ∧ z.y1 = e.y1 := by
  have hn := cntI_bd h hb
  obtain ⟨k, hk⟩ : ∃ k, (cntI e).toNat = k + 1 := ⟨(cntI e).toNat - 1, by omega⟩
  have hk' : ((k : Int) + 1) = cntI e := by omega
  refine ⟨lnsTo e (cntI e) k, _, by rw [lns_yes h hb, hk, lnsTo_snoc], ?_, ?_⟩
  · simp only; rw [plcX_at, hk']; exact plc1_last _ _ _ _ hn.1
  · simp only; rw [plcY_at, hk']; exact plc1_last _ _ _ _ hn.1

theorem modLast_comp {α : Type} (f g : α → α) : ∀ l, modLast f (modLast g l) = modLast (fun c => f (g c)) l
  | [] => rfl
  | [c] => rfl
  | c :: d :: l => by
    have ih := modLast_comp f g (d :: l)
    cases l with
    | nil => rfl
    | cons e l =>
      simp only [modLast] at ih ⊢
      rw [ih]
/-- Where the last edge ends. -/
def endOf (es : List Ed) : Option (Int × Int) := es.getLast?.map fun e => (e.x1, e.y1)
theorem endOf_app (a b : List Ed) (h : b ≠ []) : endOf (a ++ b) = endOf b := by
  unfold endOf; rw [List.getLast?_append]
  cases hb : b.getLast? with
  | none => rw [List.getLast?_eq_none_iff] at hb; exact absurd hb h
  | some z => rfl
/-- Lines alone: they lengthen the last contour. -/
theorem foldLines : ∀ (ls : List Sg) (_ : ∀ s ∈ ls, s.kind = 2) (st : List Ct × Int × Int), ∃ es : List Ed, es.length = ls.length ∧ (∀ e ∈ es, e.bent = false) ∧
    (ls.foldl ctStep st).1 = modLast (fun c => { c with es := c.es ++ es }) st.1 ∧ endOf es = ls.getLast?.map (fun s => (s.x, s.y)) ∧ (ls.foldl ctStep st).2 = (ls.getLast?.map (fun s => (s.x, s.y))).getD st.2
  | [], _, st => ⟨[], rfl, fun e he => by simp at he, by
      simp only [List.foldl_nil, List.append_nil]
      have : ∀ l : List Ct, modLast (fun c => (⟨c.x, c.y, c.es, c.shut⟩ : Ct)) l = l := fun l => by
        by_cases hl : l = []
        · subst hl; rfl
        · obtain ⟨a, c, rfl⟩ := snoc_of_ne l hl; rw [modLast_snoc]
      exact (this st.1).symm, rfl, rfl⟩
  | s :: ls, h, st => by
    have hs : s.kind = 2 := h s (by simp)
    obtain ⟨es, h1, h2, h3, h4, h5⟩ := foldLines ls (fun t ht => h t (by simp [ht])) (ctStep st s)
    have hst : ctStep st s = (modLast (fun c => { c with es := c.es ++ [⟨st.2.1, st.2.2, false, s.cx, s.cy, s.x, s.y⟩] }) st.1, s.x, s.y) := by simp [ctStep, hs]
    refine ⟨⟨st.2.1, st.2.2, false, s.cx, s.cy, s.x, s.y⟩ :: es, by simp [h1], fun e he => ?_, ?_, ?_, ?_⟩
    · rw [List.mem_cons] at he
      rcases he with rfl | he
      · rfl
      · exact h2 e he
    · rw [List.foldl_cons, h3, hst, modLast_comp]; simp
    · cases ls with
      | nil => have : es = [] := List.eq_nil_of_length_eq_zero h1; subst this; rfl
      | cons t ls =>
        cases es with
        | nil => simp at h1
        | cons e es => rw [List.getLast?_cons_cons, ← h4]; unfold endOf; rw [List.getLast?_cons_cons]
    · rw [List.foldl_cons, h5, hst]
      cases ls with
      | nil => rfl
      | cons t ls =>
        rw [List.getLast?_cons_cons]
        obtain ⟨z, hz⟩ : ∃ z, (t :: ls).getLast? = some z := ⟨_, List.getLast?_eq_some_getLast (by simp)⟩
        rw [hz]; rfl

/-- b is what a becomes when its bows are lines. -/
def CtR (a b : Ct) : Prop := a.x = b.x ∧ a.y = b.y ∧ a.shut = b.shut ∧ a.es.length ≤ b.es.length ∧ (∀ e ∈ b.es, e.bent = false) ∧ (a.es ≠ [] → endOf b.es = endOf a.es)
def CtsR : List Ct → List Ct → Prop
  | [], [] => True
  | a :: l, b :: m => CtR a b ∧ CtsR l m
  | _, _ => False
theorem CtsR.length : ∀ {l m : List Ct}, CtsR l m → l.length = m.length
  | [], [], _ => rfl
  | _ :: _, _ :: _, h => by simp [CtsR.length h.2]
  | [], _ :: _, h => h.elim
  | _ :: _, [], h => h.elim
theorem CtsR.get : ∀ {l m : List Ct} (_ : CtsR l m) (i : Nat) (hl : i < l.length) (hm : i < m.length), CtR l[i] m[i]
  | _ :: _, _ :: _, h, 0, _, _ => h.1
  | _ :: _, _ :: _, h, i + 1, hl, hm => CtsR.get h.2 i (by simpa using hl) (by simpa using hm)
  | [], _, _, _, hl, _ => absurd hl (by simp)
  | _ :: _, [], h, _, _, _ => h.elim
theorem CtsR.snoc {a b : Ct} (hab : CtR a b) : ∀ {l m : List Ct}, CtsR l m → CtsR (l ++ [a]) (m ++ [b])
  | [], [], _ => ⟨hab, trivial⟩
  | _ :: _, _ :: _, h => ⟨h.1, CtsR.snoc hab h.2⟩
  | [], _ :: _, h => h.elim
  | _ :: _, [], h => h.elim
theorem CtsR.modLast {f g : Ct → Ct} (hfg : ∀ a b, CtR a b → CtR (f a) (g b)) : ∀ {l m : List Ct}, CtsR l m → CtsR (modLast f l) (modLast g m)
  | [], [], _ => trivial
  | [_], [_], h => ⟨hfg _ _ h.1, trivial⟩
  | _ :: _ :: _, _ :: _ :: _, h => ⟨h.1, CtsR.modLast hfg h.2⟩
  | [], _ :: _, h => h.elim
  | _ :: _, [], h => h.elim
  | [_], _ :: _ :: _, h => h.2.elim
  | _ :: _ :: _, [_], h => h.2.elim

theorem pieceB_co {s : Sg} (h : pieceB s = true) : co s.x = true ∧ co s.y = true ∧ co s.cx = true ∧ co s.cy = true := by
  have h0 : co 0 = true := by decide
  simp only [pieceB, Bool.or_eq_true, Bool.and_eq_true, beq_iff_eq] at h
  rcases h with (⟨_, ⟨⟨⟨h1, h2⟩, h3⟩, h4⟩⟩ | ⟨_, ⟨⟨h1, h2⟩, h3, h4⟩⟩) | ⟨_, ⟨⟨⟨h1, h2⟩, h3⟩, h4⟩⟩
  · rw [h3, h4]; exact ⟨h1, h2, h0, h0⟩
  · exact ⟨h1, h2, h3, h4⟩
  · rw [h1, h2, h3, h4]; exact ⟨h0, h0, h0, h0⟩
theorem bow_ok {x y : Int} {s : Sg} (hx : co x = true) (hy : co y = true) (h : pieceB s = true) : edOK ⟨x, y, true, s.cx, s.cy, s.x, s.y⟩ = true := by
  obtain ⟨h1, h2, h3, h4⟩ := pieceB_co h
  rw [co_iff] at *
  exact edOK_mk hx hy h3 h4 h1 h2 (.inl rfl)
/-- The lines of a bow, as pieces. -/
theorem bow_lines {x y : Int} {s : Sg} (hx : co x = true) (hy : co y = true) (h : pieceB s = true) (hk : s.kind = 3) :
    (∀ t ∈ flatSeg x y s, t.kind = 2 ∧ pieceB t = true) ∧ flatSeg x y s ≠ [] ∧ (flatSeg x y s).getLast?.map (fun t => (t.x, t.y)) = some (s.x, s.y) := by
  have hok := bow_ok hx hy h
  obtain ⟨h1, h2, h3, h4⟩ := pieceB_co h
  rw [co_iff] at h1 h2 h3 h4 hx hy
  rw [flatSeg_bow hk]
  refine ⟨fun t ht => ?_, ?_, ?_⟩
  · rw [List.mem_map] at ht
    obtain ⟨e, he, rfl⟩ := ht
    obtain ⟨i, hi, rfl⟩ := List.getElem_of_mem he
    obtain ⟨_, _, r1, r2⟩ := lns_range (a := -8191) (b := 8191) hok hx h3 h1 hy h4 h2 i hi
    refine ⟨rfl, ?_⟩
    simp [pieceB, lnSg, co_iff.2 r1, co_iff.2 r2]
  · obtain ⟨a, z, hz, _⟩ := lns_last hok rfl
    rw [hz]; simp
  · obtain ⟨a, z, hz, hzx, hzy⟩ := lns_last hok rfl
    rw [hz, List.map_append, List.getLast?_append]
    simp [lnSg, hzx, hzy]

/-- The flat path's contours are the path's, with lines in the place of bows. -/
theorem flat_R : ∀ (l : List Sg) (last x y : Int) (st st' : List Ct × Int × Int), mayFrom last l = true → co x = true → co y = true → CtsR st.1 st'.1 → st.2 = st'.2 →
    CtsR (l.foldl ctStep st).1 ((flatFrom x y l).foldl ctStep st').1 ∧ (l.foldl ctStep st).2 = ((flatFrom x y l).foldl ctStep st').2
  | [], _, _, _, _, _, _, _, _, hR, h2 => ⟨hR, h2⟩
  | s :: l, last, x, y, st, st', hm, hx, hy, hR, h2 => by
    simp only [mayFrom, Bool.and_eq_true] at hm
    obtain ⟨hp, hr⟩ := rightB_iff.1 hm.1
    obtain ⟨c1, c2, _, _⟩ := pieceB_co hp
    rw [flatFrom, List.foldl_cons, List.foldl_append]
    by_cases h3 : s.kind = 3
    · obtain ⟨hl, hne, hlast⟩ := bow_lines hx hy hp h3
      obtain ⟨es, e1, e2, e3, e4, e5⟩ := foldLines (flatSeg x y s) (fun t ht => (hl t ht).1) st'
      have hes : es ≠ [] := fun h => by subst h; exact hne (List.eq_nil_of_length_eq_zero e1.symm)
      refine flat_R l s.kind s.x s.y _ _ hm.2 c1 c2 ?_ ?_
      · rw [e3]
        have : (ctStep st s).1 = modLast (fun c => { c with es := c.es ++ [⟨st.2.1, st.2.2, true, s.cx, s.cy, s.x, s.y⟩] }) st.1 := by simp [ctStep, h3]
        rw [this]
        refine CtsR.modLast (fun a b hab => ?_) hR
        obtain ⟨r1, r2, r3, r4, r5, r6⟩ := hab
        have hlen : 0 < es.length := List.length_pos_iff.2 hes
        refine ⟨r1, r2, r3, by simp only [List.length_append, List.length_singleton]; omega, fun e he => ?_, fun _ => ?_⟩
        · rw [List.mem_append] at he
          rcases he with he | he
          · exact r5 e he
          · exact e2 e he
        · simp only
          rw [endOf_app _ _ hes, endOf_app _ _ (by simp), e4, hlast]; rfl
      · rw [e5, hlast]; simp [ctStep, h3]
    · have hseg : flatSeg x y s = [s] := by simp [flatSeg, h3]
      rw [hseg]
      refine flat_R l s.kind s.x s.y _ _ hm.2 c1 c2 ?_ ?_
      · simp only [List.foldl_cons, List.foldl_nil]
        unfold ctStep
        split
        · exact CtsR.snoc ⟨rfl, rfl, rfl, by simp, fun e he => by simp at he, fun h => absurd rfl h⟩ hR
        · split
          · show CtsR (modLast (fun c => { c with shut := true }) st.1) (modLast (fun c => { c with shut := true }) st'.1)
            refine CtsR.modLast (f := fun c => { c with shut := true }) (g := fun c => { c with shut := true }) (fun a b hab => ?_) hR
            obtain ⟨r1, r2, r3, r4, r5, r6⟩ := hab
            exact ⟨r1, r2, rfl, r4, r5, r6⟩
          · rw [h2]
            show CtsR (modLast (fun c => { c with es := c.es ++ [⟨st'.2.1, st'.2.2, s.kind == 3, s.cx, s.cy, s.x, s.y⟩] }) st.1) (modLast (fun c => { c with es := c.es ++ [⟨st'.2.1, st'.2.2, s.kind == 3, s.cx, s.cy, s.x, s.y⟩] }) st'.1)
            refine CtsR.modLast (f := fun c => { c with es := c.es ++ [⟨st'.2.1, st'.2.2, s.kind == 3, s.cx, s.cy, s.x, s.y⟩] }) (g := fun c => { c with es := c.es ++ [⟨st'.2.1, st'.2.2, s.kind == 3, s.cx, s.cy, s.x, s.y⟩] }) (fun a b hab => ?_) hR
            obtain ⟨r1, r2, r3, r4, r5, r6⟩ := hab
            refine ⟨r1, r2, r3, by simp only [List.length_append, List.length_singleton]; omega, fun e he => ?_, fun _ => ?_⟩
            · rw [List.mem_append, List.mem_singleton] at he
              rcases he with he | rfl
              · exact r5 e he
              · simp [h3]
            · simp only
              rw [endOf_app _ _ (by simp), endOf_app _ _ (by simp)]
      · simp only [List.foldl_cons, List.foldl_nil]
        unfold ctStep
        split
        · rfl
        · split
          · exact h2
          · rfl

theorem mayFrom_lines : ∀ (ls rest : List Sg) (a : Int), (∀ s ∈ ls, s.kind = 2 ∧ pieceB s = true) → ls ≠ [] → a ≠ 0 → a ≠ 4 → mayFrom 2 rest = true → mayFrom a (ls ++ rest) = true
  | [], _, _, _, h, _, _, _ => absurd rfl h
  | s :: ls, rest, a, h, _, h0, h4, hr => by
    obtain ⟨hk, hp⟩ := h s (by simp)
    have h1 : rightB s a = true := rightB_iff.2 ⟨hp, .inr ⟨by omega, h0, h4⟩⟩
    rw [List.cons_append, mayFrom, h1, hk, Bool.true_and]
    by_cases hl : ls = []
    · subst hl; exact hr
    · exact mayFrom_lines ls rest 2 (fun t ht => h t (by simp [ht])) hl (by decide) (by decide) hr
theorem mayFrom_flat : ∀ (l : List Sg) (last last' x y : Int), mayFrom last l = true → (last = last' ∨ (last = 3 ∧ last' = 2)) → co x = true → co y = true → mayFrom last' (flatFrom x y l) = true
  | [], _, _, _, _, _, _, _, _ => rfl
  | s :: l, last, last', x, y, hm, hll, hx, hy => by
    simp only [mayFrom, Bool.and_eq_true] at hm
    obtain ⟨hp, hr⟩ := rightB_iff.1 hm.1
    obtain ⟨c1, c2, _, _⟩ := pieceB_co hp
    rw [flatFrom]
    by_cases h3 : s.kind = 3
    · obtain ⟨hl, hne, _⟩ := bow_lines hx hy hp h3
      have : last' ≠ 0 ∧ last' ≠ 4 := by omega
      exact mayFrom_lines _ _ _ hl hne this.1 this.2 (mayFrom_flat l s.kind 2 s.x s.y hm.2 (.inr ⟨h3, rfl⟩) c1 c2)
    · have hseg : flatSeg x y s = [s] := by simp [flatSeg, h3]
      rw [hseg, List.cons_append, List.nil_append, mayFrom, Bool.and_eq_true]
      exact ⟨rightB_iff.2 ⟨hp, by omega⟩, mayFrom_flat l s.kind s.kind s.x s.y hm.2 (.inl rfl) c1 c2⟩
theorem flatFrom_flat : ∀ (l : List Sg) (x y : Int), (∀ s ∈ l, s.kind ≠ 3) → flatFrom x y l = l
  | [], _, _, _ => rfl
  | s :: l, x, y, h => by
    have hs : flatSeg x y s = [s] := by simp [flatSeg, h s (by simp)]
    rw [flatFrom, hs, flatFrom_flat l _ _ (fun t ht => h t (by simp [ht]))]; rfl
theorem flat_nobow : ∀ (l : List Sg) (x y : Int), ∀ t ∈ flatFrom x y l, t.kind ≠ 3
  | [], _, _, t, h => by simp [flatFrom] at h
  | s :: l, x, y, t, h => by
    rw [flatFrom, List.mem_append] at h
    rcases h with h | h
    · unfold flatSeg at h
      split at h
      · rw [List.mem_map] at h
        obtain ⟨e, _, rfl⟩ := h; simp [lnSg]
      · rename_i h3
        rw [List.mem_singleton] at h; subst h; exact h3
    · exact flat_nobow l _ _ t h

/-- A flat path is valid. -/
theorem flatL_may {l : List Sg} (h : mayB l = true) (hl : (flatL l).length ≤ 300) : mayB (flatL l) = true := by
  have := mayFrom_flat l 0 0 0 0 (mayB_from h).1 (.inl rfl) (by decide) (by decide)
  simp only [mayB, Bool.and_eq_true, decide_eq_true_eq]
  exact ⟨hl, this⟩
/-- A flat path stays as it is. -/
theorem flatL_again (l : List Sg) : flatL (flatL l) = flatL l := flatFrom_flat _ _ _ (flat_nobow l 0 0)
theorem flatE_again {l : List Sg} (h : mayB l = true) (hl : (flatL l).length ≤ 300) : flatE (flatL l) = (flatL l, 0) := by
  have h1 := flatL_may h hl
  rw [flatE_all h1 (by rw [flatL_again]; exact hl), flatL_again]
/-- A path without bows is flat. -/
theorem flatE_nobow {l : List Sg} (h : mayB l = true) (hb : ∀ s ∈ l, s.kind ≠ 3) : flatE l = (l, 0) := by
  have h1 : flatL l = l := flatFrom_flat l 0 0 hb
  rw [flatE_all h (by rw [h1]; exact (mayB_from h).2), h1]
/-- Its contours are the path's. -/
theorem ctsL_flat {l : List Sg} (h : mayB l = true) (hl : (flatL l).length ≤ 300) : CtsR (ctsL l) (ctsL (flatL l)) := by
  have h1 := flatL_may h hl
  simp only [ctsL, h, h1]
  exact (flat_R l 0 0 0 ([], 0, 0) ([], 0, 0) (mayB_from h).1 (by decide) (by decide) trivial rfl).1

end Go.Proofs.YtdfkbbcoolgfiaaGreat

/- The plain side of turning a path: contours, turned and flat. -/
namespace Go.Proofs.YtdfkbbcoolgfiaaGreat

/-- An edge from its end to its beginning. -/
def flip (e : Ed) : Ed := ⟨e.x1, e.y1, e.bent, e.cx, e.cy, e.x0, e.y0⟩
theorem flip_flip (e : Ed) : flip (flip e) = e := rfl
theorem edOK_flip (e : Ed) : edOK (flip e) = edOK e := by
  rw [Bool.eq_iff_iff, edOK_iff, edOK_iff]
  simp only [flip]
  constructor <;> rintro ⟨h0, h1, h2, h3, h4, h5, h6⟩ <;> exact ⟨h4, h5, h2, h3, h0, h1, h6⟩
theorem farI_flip (x0 y0 cx cy x1 y1 : Int) : farI x1 y1 cx cy x0 y0 = farI x0 y0 cx cy x1 y1 := by
  unfold farI
  have h1 : x1 - 2 * cx + x0 = x0 - 2 * cx + x1 := by omega
  have h2 : y1 - 2 * cy + y0 = y0 - 2 * cy + y1 := by omega
  rw [h1, h2]
theorem cntI_flip (e : Ed) : cntI (flip e) = cntI e := by
  unfold cntI
  rw [edOK_flip]
  simp only [flip, farI_flip]
theorem plc1_flip (a c b k n : Int) : plc1 b c a (n - k) n = plc1 a c b k n := by
  unfold plc1
  have : b * (n - (n - k)) * (n - (n - k)) + 2 * c * (n - k) * (n - (n - k)) + a * (n - k) * (n - k) = a * (n - k) * (n - k) + 2 * c * k * (n - k) + b * k * k := by grind
  rw [this]
theorem plc1_zero (a c b n : Int) (hn : 1 ≤ n) : plc1 a c b 0 n = a := by
  have := plc1_flip a c b 0 n
  rw [Int.sub_zero, plc1_last b c a n hn] at this
  exact this.symm
theorem plcX_all (e : Ed) (n : Int) (k : Nat) (hn : 1 ≤ n) : plcX e n k = plc1 e.x0 e.cx e.x1 k n := by
  unfold plcX; split
  · rename_i h; subst h; exact (plc1_zero _ _ _ n hn).symm
  · rfl
theorem plcY_all (e : Ed) (n : Int) (k : Nat) (hn : 1 ≤ n) : plcY e n k = plc1 e.y0 e.cy e.y1 k n := by
  unfold plcY; split
  · rename_i h; subst h; exact (plc1_zero _ _ _ n hn).symm
  · rfl
theorem plcX_flip (e : Ed) (n k : Nat) (hn : 1 ≤ n) (hk : k ≤ n) : plcX (flip e) n (n - k) = plcX e n k := by
  rw [plcX_all _ _ _ (by omega), plcX_all _ _ _ (by omega), Int.ofNat_sub hk]
  exact plc1_flip e.x0 e.cx e.x1 k n
theorem plcY_flip (e : Ed) (n k : Nat) (hn : 1 ≤ n) (hk : k ≤ n) : plcY (flip e) n (n - k) = plcY e n k := by
  rw [plcY_all _ _ _ (by omega), plcY_all _ _ _ (by omega), Int.ofNat_sub hk]
  exact plc1_flip e.y0 e.cy e.y1 k n
/-- The lines of the edge turned are the lines, turned. -/
theorem lns_flip {e : Ed} (h : edOK e = true) : lns (flip e) = ((lns e).map flip).reverse := by
  have h' : edOK (flip e) = true := by rw [edOK_flip]; exact h
  cases hb : e.bent
  · rw [lns_flat h hb, lns_flat h' hb]; rfl
  · have hn := cntI_bd h hb
    rw [lns_yes h hb, lns_yes h' hb, cntI_flip]
    obtain ⟨n, hn'⟩ : ∃ n : Nat, cntI e = n := ⟨(cntI e).toNat, by omega⟩
    rw [hn']
    have ht : ((n : Int)).toNat = n := rfl
    rw [ht]
    apply List.ext_getElem
    · simp [lnsTo]
    · intro i h1 h2
      have hi : i < n := by simpa [lnsTo] using h1
      rw [List.getElem_reverse]
      simp only [List.getElem_map, List.length_map, lnsTo, List.getElem_range, List.length_range, flip]
      have e1 : n - 1 - i + 1 = n - i := by omega
      have x1 := plcX_flip e n (n - i) (by omega) (by omega)
      have x2 := plcX_flip e n (n - 1 - i) (by omega) (by omega)
      have y1 := plcY_flip e n (n - i) (by omega) (by omega)
      have y2 := plcY_flip e n (n - 1 - i) (by omega) (by omega)
      have e2 : n - (n - i) = i := by omega
      have e3 : n - (n - 1 - i) = i + 1 := by omega
      rw [e2] at x1 y1
      rw [e3] at x2 y2
      rw [e1, ← x1, ← x2, ← y1, ← y2]
      simp [flip, hb]

/-- An edge's piece. -/
def sgE (e : Ed) : Sg := if e.bent then ⟨3, e.x1, e.y1, e.cx, e.cy⟩ else ⟨2, e.x1, e.y1, 0, 0⟩
def clL (b : Bool) : List Sg := if b then [⟨4, 0, 0, 0, 0⟩] else []
/-- A contour's pieces. -/
def pathC (c : Ct) : List Sg := ⟨1, c.x, c.y, 0, 0⟩ :: (c.es.map sgE ++ clL c.shut)
def pathOf (cs : List Ct) : List Sg := cs.flatMap pathC
/-- The edges hang together from x, y on. -/
def chain : Int → Int → List Ed → Prop
  | _, _, [] => True
  | x, y, e :: es => e.x0 = x ∧ e.y0 = y ∧ chain e.x1 e.y1 es
def endX (x : Int) (es : List Ed) : Int := (es.getLast?.map Ed.x1).getD x
def endY (y : Int) (es : List Ed) : Int := (es.getLast?.map Ed.y1).getD y
/-- A contour as Contours makes it. -/
def GoodC (c : Ct) : Prop := chain c.x c.y c.es ∧ (∀ e ∈ c.es, edOK e = true) ∧ co c.x = true ∧ co c.y = true
theorem endX_cons (x : Int) (e : Ed) (es : List Ed) : endX x (e :: es) = endX e.x1 es := by
  unfold endX
  cases es with
  | nil => rfl
  | cons d es =>
    obtain ⟨z, hz⟩ : ∃ z, (d :: es).getLast? = some z := ⟨_, List.getLast?_eq_some_getLast (by simp)⟩
    rw [List.getLast?_cons_cons, hz]; rfl
theorem endY_cons (y : Int) (e : Ed) (es : List Ed) : endY y (e :: es) = endY e.y1 es := by
  unfold endY
  cases es with
  | nil => rfl
  | cons d es =>
    obtain ⟨z, hz⟩ : ∃ z, (d :: es).getLast? = some z := ⟨_, List.getLast?_eq_some_getLast (by simp)⟩
    rw [List.getLast?_cons_cons, hz]; rfl
theorem sgE_step {x y : Int} {e : Ed} (h : edOK e = true) (hx : e.x0 = x) (hy : e.y0 = y) (a : List Ct) (c : Ct) :
    ctStep (a ++ [c], x, y) (sgE e) = (a ++ [{ c with es := c.es ++ [e] }], e.x1, e.y1) := by
  obtain ⟨x0, y0, bent, cx, cy, x1, y1⟩ := e
  simp only at hx hy
  subst hx; subst hy
  rw [edOK_iff] at h
  obtain ⟨-, -, -, -, -, -, h⟩ := h
  cases bent
  · simp at h
    obtain ⟨rfl, rfl⟩ := h
    simp [sgE, ctStep, modLast_snoc]
  · simp [sgE, ctStep, modLast_snoc]
theorem fold_es : ∀ (es : List Ed) (x y : Int) (a : List Ct) (c : Ct), chain x y es → (∀ e ∈ es, edOK e = true) →
    (es.map sgE).foldl ctStep (a ++ [c], x, y) = (a ++ [{ c with es := c.es ++ es }], endX x es, endY y es)
  | [], x, y, a, c, _, _ => by simp [endX, endY]
  | e :: es, x, y, a, c, hc, ho => by
    rw [List.map_cons, List.foldl_cons, sgE_step (ho e (by simp)) hc.1 hc.2.1, fold_es es _ _ _ _ hc.2.2 (fun d hd => ho d (by simp [hd])), endX_cons, endY_cons]
    simp
/-- A good contour's pieces make it. -/
theorem fold_C {c : Ct} (h : GoodC c) (st : List Ct × Int × Int) : (pathC c).foldl ctStep st = (st.1 ++ [c], endX c.x c.es, endY c.y c.es) := by
  unfold pathC
  rw [List.foldl_cons, List.foldl_append]
  have h1 : ctStep st ⟨1, c.x, c.y, 0, 0⟩ = (st.1 ++ [⟨c.x, c.y, [], false⟩], c.x, c.y) := by simp [ctStep]
  rw [h1, fold_es _ _ _ _ _ h.1 h.2.1]
  obtain ⟨x, y, es, b⟩ := c
  cases b <;> simp [clL, ctStep, modLast_snoc]
theorem fold_pathOf : ∀ (cs : List Ct) (_ : ∀ c ∈ cs, GoodC c) (st : List Ct × Int × Int), ((pathOf cs).foldl ctStep st).1 = st.1 ++ cs
  | [], _, st => by simp [pathOf]
  | c :: cs, h, st => by
    have : pathOf (c :: cs) = pathC c ++ pathOf cs := by simp [pathOf]
    rw [this, List.foldl_append, fold_C (h c (by simp)), fold_pathOf cs (fun d hd => h d (by simp [hd]))]
    simp
/-- Contours of the pieces of good contours. -/
theorem ctTo_pathOf {cs : List Ct} (h : ∀ c ∈ cs, GoodC c) : (ctTo (pathOf cs)).1 = cs := by
  have := fold_pathOf cs h ([], 0, 0)
  simpa [ctTo] using this

theorem endX_snoc (x : Int) (es : List Ed) (e : Ed) : endX x (es ++ [e]) = e.x1 := by simp [endX]
theorem endY_snoc (y : Int) (es : List Ed) (e : Ed) : endY y (es ++ [e]) = e.y1 := by simp [endY]
theorem chain_snoc : ∀ (es : List Ed) (x y : Int) (e : Ed), chain x y es → e.x0 = endX x es → e.y0 = endY y es → chain x y (es ++ [e])
  | [], _, _, _, _, hx, hy => ⟨hx, hy, trivial⟩
  | d :: es, x, y, e, hc, hx, hy => ⟨hc.1, hc.2.1, chain_snoc es _ _ e hc.2.2 (by rw [hx, endX_cons]) (by rw [hy, endY_cons])⟩
theorem pathOf_snoc (a : List Ct) (c : Ct) : pathOf (a ++ [c]) = pathOf a ++ pathC c := by simp [pathOf]
theorem lastK_snoc (l : List Sg) (s : Sg) : lastK (l ++ [s]) = s.kind := by simp [lastK]
/-- So far the contours are the path's. -/
def SoFar (l : List Sg) (st : List Ct × Int × Int) : Prop :=
  pathOf st.1 = l ∧ (∀ c ∈ st.1, GoodC c) ∧ (∀ a c, st.1 = a ++ [c] → st.2 = (endX c.x c.es, endY c.y c.es) ∧ (c.shut = true → lastK l = 4)) ∧ co st.2.1 = true ∧ co st.2.2 = true
theorem SoFar.step {l : List Sg} {st : List Ct × Int × Int} {s : Sg} (h : SoFar l st) (hr : rightB s (lastK l) = true) : SoFar (l ++ [s]) (ctStep st s) := by
  obtain ⟨h1, h2, h3, h4, h5⟩ := h
  obtain ⟨hp, hk⟩ := rightB_iff.1 hr
  obtain ⟨c1, c2, c3, c4⟩ := pieceB_co hp
  have hkk := pieceB_kind hp
  obtain ⟨kd, x, y, cx, cy⟩ := s
  simp only at hk c1 c2 c3 c4 hkk
  by_cases k1 : kd = 1
  · subst k1
    have hz : cx = 0 ∧ cy = 0 := by simp [pieceB] at hp; omega
    obtain ⟨rfl, rfl⟩ := hz
    refine ⟨?_, ?_, ?_, c1, c2⟩
    · simp only [ctStep, if_true]; rw [pathOf_snoc, h1]; rfl
    · intro c hc
      simp only [ctStep, if_true, List.mem_append, List.mem_singleton] at hc
      rcases hc with hc | rfl
      · exact h2 c hc
      · exact ⟨trivial, fun e he => by simp at he, c1, c2⟩
    · intro a c hac
      simp only [ctStep, if_true] at hac
      obtain ⟨-, hc⟩ := List.append_inj' hac rfl
      injection hc with hc _
      subst hc
      exact ⟨rfl, fun hh => by cases hh⟩
  · have hl0 : lastK l ≠ 0 ∧ lastK l ≠ 4 := by omega
    have hne : st.1 ≠ [] := fun hh => by rw [hh] at h1; rw [← h1] at hl0; exact hl0.1 rfl
    obtain ⟨ps, px, py⟩ := st
    obtain ⟨a, c, hac⟩ := snoc_of_ne ps hne
    subst hac
    obtain ⟨he, hs⟩ := h3 a c rfl
    simp only at h1 h2 he h4 h5
    injection he with hex hey
    have hsh : c.shut = false := by
      cases hc : c.shut
      · rfl
      · exact absurd (hs hc) hl0.2
    obtain ⟨X, Y, es, b⟩ := c
    simp only at hsh hex hey
    subst hsh
    have hgc := h2 ⟨X, Y, es, false⟩ (by simp)
    rw [pathOf_snoc] at h1
    by_cases k4 : kd = 4
    · subst k4
      have hz : x = 0 ∧ y = 0 ∧ cx = 0 ∧ cy = 0 := by simp [pieceB] at hp; omega
      obtain ⟨rfl, rfl, rfl, rfl⟩ := hz
      have hst : ctStep (a ++ [⟨X, Y, es, false⟩], px, py) ⟨4, 0, 0, 0, 0⟩ = (a ++ [⟨X, Y, es, true⟩], px, py) := by simp [ctStep, modLast_snoc]
      rw [hst]
      refine ⟨?_, ?_, ?_, h4, h5⟩
      · simp only
        rw [pathOf_snoc, ← h1, List.append_assoc]
        simp [pathC, clL]
      · intro d hd
        simp only [List.mem_append, List.mem_singleton] at hd
        rcases hd with hd | rfl
        · exact h2 d (by simp [hd])
        · exact hgc
      · intro a' d had
        obtain ⟨-, hc⟩ := List.append_inj' had rfl
        injection hc with hc _
        subst hc
        exact ⟨by rw [hex, hey], fun _ => by rw [lastK_snoc]⟩
    · have hst : ctStep (a ++ [⟨X, Y, es, false⟩], px, py) ⟨kd, x, y, cx, cy⟩ = (a ++ [⟨X, Y, es ++ [⟨px, py, kd == 3, cx, cy, x, y⟩], false⟩], x, y) := by simp [ctStep, k1, k4, modLast_snoc]
      rw [hst]
      have hed : edOK ⟨px, py, kd == 3, cx, cy, x, y⟩ = true := by
        rw [co_iff] at c1 c2 c3 c4 h4 h5
        refine edOK_mk h4 h5 c3 c4 c1 c2 ?_
        by_cases k3 : kd = 3
        · exact .inl (by simp [k3])
        · exact .inr (by simp [pieceB] at hp; omega)
      refine ⟨?_, ?_, ?_, c1, c2⟩
      · simp only
        rw [pathOf_snoc, ← h1, List.append_assoc]
        have : sgE ⟨px, py, kd == 3, cx, cy, x, y⟩ = ⟨kd, x, y, cx, cy⟩ := by
          by_cases k3 : kd = 3
          · subst k3; simp [sgE]
          · have k2 : kd = 2 := by omega
            have hz : cx = 0 ∧ cy = 0 := by simp [pieceB] at hp; omega
            obtain ⟨rfl, rfl⟩ := hz
            subst k2; simp [sgE]
        simp [pathC, clL, this]
      · intro d hd
        simp only [List.mem_append, List.mem_singleton] at hd
        rcases hd with hd | rfl
        · exact h2 d (by simp [hd])
        · obtain ⟨g1, g2, g3, g4⟩ := hgc
          refine ⟨chain_snoc es X Y _ g1 hex hey, fun e he => ?_, g3, g4⟩
          simp only [List.mem_append, List.mem_singleton] at he
          rcases he with he | rfl
          · exact g2 e he
          · exact hed
      · intro a' d had
        obtain ⟨-, hc⟩ := List.append_inj' had rfl
        injection hc with hc _
        subst hc
        exact ⟨by simp only [endX_snoc, endY_snoc], fun hh => by cases hh⟩
theorem soFar_take {l : List Sg} (h : mayB l = true) : ∀ k, k ≤ l.length → SoFar (l.take k) (ctTo (l.take k))
  | 0, _ => ⟨rfl, fun c hc => by simp [ctTo] at hc, fun a c hac => by simp [ctTo] at hac, by simp [ctTo, co], by simp [ctTo, co]⟩
  | k + 1, hk => by
    have ih := soFar_take h k (by omega)
    have hr := may_at l 0 k hk (mayB_from h).1
    have hlk : lastK (l.take k) = if h0 : 0 < k then (l[k - 1]'(by omega)).kind else 0 := by
      cases k with
      | zero => rfl
      | succ k => rw [List.take_succ_eq_append_getElem (by omega), lastK_snoc]; simp
    rw [← hlk] at hr
    rw [ctTo_take l k hk, List.take_succ_eq_append_getElem hk]
    exact ih.step hr
/-- A valid path is its contours' pieces; they are good. -/
theorem pathOf_ctTo {l : List Sg} (h : mayB l = true) : pathOf (ctTo l).1 = l ∧ ∀ c ∈ (ctTo l).1, GoodC c := by
  have := soFar_take h l.length (Nat.le_refl _)
  rw [List.take_length] at this
  exact ⟨this.1, this.2.1⟩

/-- A contour turned. -/
def turnC (c : Ct) : Ct := ⟨endX c.x c.es, endY c.y c.es, (c.es.map flip).reverse, c.shut⟩
/-- A contour of lines alone. -/
def flatC (c : Ct) : Ct := { c with es := c.es.flatMap lns }
theorem turn_cons (e : Ed) (es : List Ed) : ((e :: es).map flip).reverse = (es.map flip).reverse ++ [flip e] := by simp
/-- The edges turned hang together from the end on, to the beginning. -/
theorem chain_turn : ∀ (es : List Ed) (x y : Int), chain x y es → chain (endX x es) (endY y es) ((es.map flip).reverse) ∧ endX (endX x es) ((es.map flip).reverse) = x ∧ endY (endY y es) ((es.map flip).reverse) = y
  | [], _, _, _ => ⟨trivial, rfl, rfl⟩
  | e :: es, x, y, h => by
    obtain ⟨h1, h2, h3⟩ := chain_turn es e.x1 e.y1 h.2.2
    rw [turn_cons, endX_cons, endY_cons]
    refine ⟨chain_snoc _ _ _ _ h1 h2.symm h3.symm, ?_, ?_⟩
    · rw [endX_snoc]; exact h.1
    · rw [endY_snoc]; exact h.2.1
theorem end_co {es : List Ed} {x y : Int} (h : ∀ e ∈ es, edOK e = true) (hx : co x = true) (hy : co y = true) : co (endX x es) = true ∧ co (endY y es) = true := by
  by_cases hn : es = []
  · subst hn; exact ⟨hx, hy⟩
  · have hm := List.getLast_mem hn
    have ho := h _ hm
    rw [edOK_iff] at ho
    unfold endX endY
    rw [List.getLast?_eq_some_getLast hn]
    exact ⟨co_iff.2 ho.2.2.2.2.1, co_iff.2 ho.2.2.2.2.2.1⟩
theorem GoodC.turn {c : Ct} (h : GoodC c) : GoodC (turnC c) := by
  obtain ⟨h1, h2, h3, h4⟩ := h
  obtain ⟨e1, e2⟩ := end_co h2 h3 h4
  refine ⟨(chain_turn _ _ _ h1).1, fun e he => ?_, e1, e2⟩
  simp only [turnC, List.mem_reverse, List.mem_map] at he
  obtain ⟨d, hd, rfl⟩ := he
  rw [edOK_flip]; exact h2 d hd
theorem flip_map (es : List Ed) : es.map (flip ∘ flip) = es := by
  induction es with
  | nil => rfl
  | cons e es ih => rw [List.map_cons, ih]; rfl
theorem turn_turn {c : Ct} (h : GoodC c) : turnC (turnC c) = c := by
  obtain ⟨-, h2, h3⟩ := chain_turn _ _ _ h.1
  obtain ⟨x, y, es, b⟩ := c
  simp only [turnC] at *
  rw [h2, h3]
  simp only [List.map_reverse, List.reverse_reverse, List.map_map, flip_map]
theorem flat_map_lns (es : List Ed) (h : ∀ e ∈ es, edOK e = true) : ((es.map flip).reverse).flatMap lns = ((es.flatMap lns).map flip).reverse := by
  induction es with
  | nil => rfl
  | cons e es ih =>
    rw [turn_cons, List.flatMap_append, ih (fun d hd => h d (by simp [hd]))]
    simp only [List.flatMap_cons, List.flatMap_nil, List.append_nil, List.map_append, List.reverse_append]
    rw [lns_flip (h e (by simp))]

theorem flatSeg_sgE {e : Ed} (h : edOK e = true) : flatSeg e.x0 e.y0 (sgE e) = (lns e).map sgE := by
  cases hb : e.bent
  · rw [lns_flat h hb]
    simp [sgE, hb, flatSeg]
  · have h3 : (sgE e).kind = 3 := by simp [sgE, hb]
    rw [flatSeg_bow h3]
    have he : (⟨e.x0, e.y0, true, (sgE e).cx, (sgE e).cy, (sgE e).x, (sgE e).y⟩ : Ed) = e := by
      obtain ⟨x0, y0, b, cx, cy, x1, y1⟩ := e
      simp only at hb
      subst hb
      rfl
    rw [he]
    apply List.map_congr_left
    intro d hd
    obtain ⟨i, hi, rfl⟩ := List.getElem_of_mem hd
    simp [sgE, lnSg, lns_straight e hb i hi]
theorem sgE_end (e : Ed) : (sgE e).x = e.x1 ∧ (sgE e).y = e.y1 := by unfold sgE; split <;> exact ⟨rfl, rfl⟩
theorem flat_es : ∀ (es : List Ed) (x y : Int) (tl : List Sg), chain x y es → (∀ e ∈ es, edOK e = true) →
    flatFrom x y (es.map sgE ++ tl) = (es.flatMap lns).map sgE ++ flatFrom (endX x es) (endY y es) tl
  | [], x, y, tl, _, _ => rfl
  | e :: es, x, y, tl, hc, ho => by
    rw [List.map_cons, List.cons_append, flatFrom, endX_cons, endY_cons, (sgE_end e).1, (sgE_end e).2, flat_es es _ _ tl hc.2.2 (fun d hd => ho d (by simp [hd])), List.flatMap_cons, List.map_append, List.append_assoc, ← hc.1, ← hc.2.1, flatSeg_sgE (ho e (by simp))]
theorem flat_cl (b : Bool) (x y : Int) (tl : List Sg) : ∃ x' y', flatFrom x y (clL b ++ tl) = clL b ++ flatFrom x' y' tl := by
  cases b
  · exact ⟨x, y, rfl⟩
  · exact ⟨0, 0, by simp [clL, flatFrom, flatSeg]⟩
/-- A flat path is its flat contours' pieces. -/
theorem flat_pathOf : ∀ (cs : List Ct) (x y : Int), (∀ c ∈ cs, GoodC c) → flatFrom x y (pathOf cs) = pathOf (cs.map flatC)
  | [], _, _, _ => rfl
  | c :: cs, x, y, h => by
    have h1 : pathOf (c :: cs) = ⟨1, c.x, c.y, 0, 0⟩ :: (c.es.map sgE ++ (clL c.shut ++ pathOf cs)) := by simp [pathOf, pathC]
    have h2 : pathOf ((c :: cs).map flatC) = ⟨1, c.x, c.y, 0, 0⟩ :: ((c.es.flatMap lns).map sgE ++ (clL c.shut ++ pathOf (cs.map flatC))) := by simp [pathOf, pathC, flatC]
    obtain ⟨g1, g2, _, _⟩ := h c (by simp)
    rw [h1, h2, flatFrom]
    simp only
    rw [flat_es _ _ _ _ g1 g2]
    obtain ⟨x', y', he⟩ := flat_cl c.shut (endX c.x c.es) (endY c.y c.es) (pathOf cs)
    rw [he, flat_pathOf cs x' y' (fun d hd => h d (by simp [hd]))]
    simp [flatSeg]

theorem lns_straightE {e : Ed} (h : edOK e = true) : ∀ d ∈ lns e, d.bent = false ∧ edOK d = true := by
  intro d hd
  have ho := h
  rw [edOK_iff] at ho
  obtain ⟨i, hi, rfl⟩ := List.getElem_of_mem hd
  obtain ⟨r1, r2, r3, r4⟩ := lns_range (a := -8191) (b := 8191) h ho.1 ho.2.2.1 ho.2.2.2.2.1 ho.2.1 ho.2.2.2.1 ho.2.2.2.2.2.1 i hi
  cases hb : e.bent
  · have hl := lns_flat h hb
    have hm : (lns e)[i] = e := by
      have := List.getElem_mem hi
      simp only [hl, List.mem_singleton] at this ⊢
      simp
    rw [hm]; exact ⟨hb, h⟩
  · have hs := lns_straight e hb i hi
    refine ⟨hs, ?_⟩
    have hc : (lns e)[i].cx = 0 ∧ (lns e)[i].cy = 0 := by
      have hl := lns_yes h hb
      simp only [hl]
      simp [lnsTo]
    rw [edOK_iff]
    exact ⟨r1, r2, by omega, by omega, r3, r4, .inr hc⟩
theorem endX_app (x : Int) (a b : List Ed) : endX x (a ++ b) = endX (endX x a) b := by
  unfold endX; rw [List.getLast?_append]
  cases b.getLast? <;> simp
theorem endY_app (y : Int) (a b : List Ed) : endY y (a ++ b) = endY (endY y a) b := by
  unfold endY; rw [List.getLast?_append]
  cases b.getLast? <;> simp
theorem turnC_flatC {c : Ct} (h : ∀ e ∈ c.es, edOK e = true) (hx : endX c.x (c.es.flatMap lns) = endX c.x c.es) (hy : endY c.y (c.es.flatMap lns) = endY c.y c.es) : flatC (turnC c) = turnC (flatC c) := by
  obtain ⟨x, y, es, b⟩ := c
  simp only [flatC, turnC] at *
  rw [hx, hy, flat_map_lns es h]

theorem chain_lnsTo (e : Ed) (n : Int) : ∀ k, chain e.x0 e.y0 (lnsTo e n k) ∧ endX e.x0 (lnsTo e n k) = plcX e n k ∧ endY e.y0 (lnsTo e n k) = plcY e n k
  | 0 => ⟨trivial, rfl, rfl⟩
  | k + 1 => by
    obtain ⟨h1, h2, h3⟩ := chain_lnsTo e n k
    rw [lnsTo_snoc]
    exact ⟨chain_snoc _ _ _ _ h1 h2.symm h3.symm, endX_snoc _ _ _, endY_snoc _ _ _⟩
theorem chain_lns {e : Ed} (h : edOK e = true) : chain e.x0 e.y0 (lns e) ∧ (∀ x, endX x (lns e) = e.x1) ∧ (∀ y, endY y (lns e) = e.y1) := by
  cases hb : e.bent
  · rw [lns_flat h hb]; exact ⟨⟨rfl, rfl, trivial⟩, fun _ => rfl, fun _ => rfl⟩
  · obtain ⟨a, z, hz, h1, h2⟩ := lns_last h hb
    refine ⟨?_, fun x => by rw [hz, endX_snoc, h1], fun y => by rw [hz, endY_snoc, h2]⟩
    rw [lns_yes h hb]; exact (chain_lnsTo e _ _).1
theorem chain_app : ∀ (a b : List Ed) (x y : Int), chain x y a → chain (endX x a) (endY y a) b → chain x y (a ++ b)
  | [], _, _, _, _, h => h
  | e :: a, b, x, y, ha, hb => ⟨ha.1, ha.2.1, chain_app a b _ _ ha.2.2 (by rw [endX_cons, endY_cons] at hb; exact hb)⟩
theorem chain_flat : ∀ (es : List Ed) (x y : Int), chain x y es → (∀ e ∈ es, edOK e = true) →
    chain x y (es.flatMap lns) ∧ endX x (es.flatMap lns) = endX x es ∧ endY y (es.flatMap lns) = endY y es
  | [], _, _, _, _ => ⟨trivial, rfl, rfl⟩
  | e :: es, x, y, hc, ho => by
    obtain ⟨c1, c2, c3⟩ := chain_lns (ho e (by simp))
    obtain ⟨h1, h2, h3⟩ := chain_flat es e.x1 e.y1 hc.2.2 (fun d hd => ho d (by simp [hd]))
    rw [List.flatMap_cons]
    refine ⟨chain_app _ _ _ _ (by rw [← hc.1, ← hc.2.1]; exact c1) (by rw [c2, c3]; exact h1), ?_, ?_⟩
    · rw [endX_app, c2, h2, endX_cons]
    · rw [endY_app, c3, h3, endY_cons]
theorem GoodC.flat {c : Ct} (h : GoodC c) : GoodC (flatC c) := by
  refine ⟨(chain_flat _ _ _ h.1 h.2.1).1, fun e he => ?_, h.2.2.1, h.2.2.2⟩
  simp only [flatC, List.mem_flatMap] at he
  obtain ⟨d, hd, he⟩ := he
  exact (lns_straightE (h.2.1 d hd) e he).2
/-- Flat and turned is turned and flat. -/
theorem flat_turn {c : Ct} (h : GoodC c) : flatC (turnC c) = turnC (flatC c) :=
  turnC_flatC h.2.1 (chain_flat _ _ _ h.1 h.2.1).2.1 (chain_flat _ _ _ h.1 h.2.1).2.2

end Go.Proofs.YtdfkbbcoolgfiaaGreat

/- The plain side of Back: the turned contours' pieces; what they are for flat paths. -/
namespace Go.Proofs.YtdfkbbcoolgfiaaGreat

/-- What Back returns. -/
def backL (l : List Sg) : List Sg := pathOf ((ctsL l).map turnC)

/-- A Move alone. -/
def bare (c : Ct) : Bool := c.es.isEmpty && !c.shut
/-- No contour but the last is a Move alone. -/
def ends : List Ct → Bool
  | [] => true
  | [_] => true
  | c :: d :: l => !bare c && ends (d :: l)

theorem mayFrom_23 : ∀ (r : List Sg), mayFrom 3 r = mayFrom 2 r
  | [] => rfl
  | s :: r => by
    simp only [mayFrom]
    have : rightB s 3 = rightB s 2 := by
      rw [Bool.eq_iff_iff, rightB_iff, rightB_iff]; simp
    rw [this]
theorem pieceB_sgE {e : Ed} (h : edOK e = true) : pieceB (sgE e) = true := by
  rw [edOK_iff] at h
  obtain ⟨x0, y0, bent, cx, cy, x1, y1⟩ := e
  simp only at h
  cases bent <;> simp [sgE, pieceB, co_iff] <;> omega
theorem sgE_kind (e : Ed) : (sgE e).kind = 3 ∨ (sgE e).kind = 2 := by unfold sgE; split <;> simp
theorem right_sgE {e : Ed} (h : edOK e = true) {a : Int} (h0 : a ≠ 0) (h4 : a ≠ 4) : rightB (sgE e) a = true := by
  rw [rightB_iff]
  refine ⟨pieceB_sgE h, .inr ⟨?_, h0, h4⟩⟩
  rcases sgE_kind e with k | k <;> rw [k] <;> decide
theorem mayFrom_es : ∀ (es : List Ed) (a : Int) (r : List Sg), (∀ e ∈ es, edOK e = true) → a ≠ 0 → a ≠ 4 → mayFrom a (es.map sgE ++ r) = mayFrom (if es.isEmpty then a else 2) r
  | [], a, r, _, _, _ => rfl
  | e :: es, a, r, h, h0, h4 => by
    rw [List.map_cons, List.cons_append, mayFrom, right_sgE (h e (by simp)) h0 h4, Bool.true_and]
    have h23 : ∀ m, mayFrom (sgE e).kind m = mayFrom 2 m := fun m => by
      rcases sgE_kind e with k | k <;> rw [k]
      exact mayFrom_23 m
    rw [h23, mayFrom_es es 2 r (fun d hd => h d (by simp [hd])) (by decide) (by decide)]
    cases es <;> simp
theorem right_move {x y : Int} (hx : co x = true) (hy : co y = true) {a : Int} : rightB ⟨1, x, y, 0, 0⟩ a = true ↔ a ≠ 1 := by
  rw [co_iff] at hx hy
  rw [rightB_iff]
  have : pieceB ⟨1, x, y, 0, 0⟩ = true := by simp [pieceB, co_iff]; omega
  simp [this]
theorem mayFrom_C {c : Ct} (h : GoodC c) (a : Int) (r : List Sg) : mayFrom a (pathC c ++ r) = true ↔ a ≠ 1 ∧ mayFrom (if c.shut then 4 else if c.es.isEmpty then 1 else 2) r = true := by
  obtain ⟨x, y, es, b⟩ := c
  obtain ⟨_, h2, h3, h4⟩ := h
  simp only at h2 h3 h4
  unfold pathC
  simp only
  rw [List.cons_append, mayFrom, Bool.and_eq_true, right_move h3 h4, List.append_assoc, mayFrom_es _ _ _ h2 (by simp) (by simp)]
  cases b
  · simp [clL]
  · have : ∀ k : Int, k ≠ 0 → k ≠ 4 → rightB ⟨4, 0, 0, 0, 0⟩ k = true := fun k h0 h4 => by
      rw [rightB_iff]; exact ⟨by decide, .inr ⟨by decide, h0, h4⟩⟩
    simp only [clL, if_true, List.cons_append, List.nil_append, mayFrom, Bool.and_eq_true]
    rw [this _ (by split <;> decide) (by split <;> decide)]
    simp
theorem mayFrom_pathOf : ∀ (cs : List Ct) (a : Int), (∀ c ∈ cs, GoodC c) → a ≠ 1 → (mayFrom a (pathOf cs) = true ↔ ends cs = true)
  | [], _, _, _ => by simp [pathOf, mayFrom, ends]
  | [c], a, h, ha => by
    have := mayFrom_C (h c (by simp)) a []
    rw [List.append_nil] at this
    have e : pathOf [c] = pathC c := by simp [pathOf]
    rw [e, this]
    simp [mayFrom, ends, ha]
  | c :: d :: l, a, h, ha => by
    have e : pathOf (c :: d :: l) = pathC c ++ pathOf (d :: l) := by simp [pathOf]
    rw [e, mayFrom_C (h c (by simp)) a]
    have hd : ∀ k, mayFrom k (pathOf (d :: l)) = true ↔ k ≠ 1 ∧ ends (d :: l) = true := fun k => by
      by_cases hk : k = 1
      · subst hk
        have e2 : pathOf (d :: l) = pathC d ++ pathOf l := by simp [pathOf]
        rw [e2, mayFrom_C (h d (by simp))]
        simp
      · rw [mayFrom_pathOf (d :: l) k (fun x hx => h x (by simp at hx ⊢; exact .inr hx)) hk]
        simp [hk]
    rw [hd]
    simp only [ends, bare, Bool.and_eq_true, Bool.not_eq_true', Bool.and_eq_false_iff]
    cases c.shut <;> cases c.es.isEmpty <;> simp [ha]
theorem bare_turn (c : Ct) : bare (turnC c) = bare c := by
  obtain ⟨x, y, es, b⟩ := c
  cases es <;> simp [bare, turnC]
theorem ends_map (f : Ct → Ct) (hf : ∀ c, bare (f c) = bare c) : ∀ cs, ends (cs.map f) = ends cs
  | [] => rfl
  | [_] => rfl
  | c :: d :: l => by
    have := ends_map f hf (d :: l)
    rw [List.map_cons] at this
    simp only [List.map_cons, ends, hf, this]
theorem pathC_turn_len (c : Ct) : (pathC (turnC c)).length = (pathC c).length := by simp [pathC, turnC]
theorem pathOf_turn_len (cs : List Ct) : (pathOf (cs.map turnC)).length = (pathOf cs).length := by
  induction cs with
  | nil => rfl
  | cons c cs ih =>
    simp only [pathOf, List.map_cons, List.flatMap_cons, List.length_append, pathC_turn_len] at *
    rw [ih]
theorem pathOf_take_le (cs : List Ct) (k : Nat) : (pathOf (cs.take k)).length ≤ (pathOf cs).length := by
  have : pathOf cs = pathOf (cs.take k) ++ pathOf (cs.drop k) := by
    unfold pathOf; rw [← List.flatMap_append, List.take_append_drop]
  rw [this, List.length_append]; omega
theorem pathOf_take_succ (cs : List Ct) (k : Nat) (h : k < cs.length) : pathOf (cs.take (k + 1)) = pathOf (cs.take k) ++ pathC cs[k] := by
  rw [List.take_succ_eq_append_getElem h, pathOf_snoc]

theorem ctsL_may {l : List Sg} (h : mayB l = true) : ctsL l = (ctTo l).1 := by simp [ctsL, h]
theorem ctsL_good (l : List Sg) : ∀ c ∈ ctsL l, GoodC c := by
  cases h : mayB l
  · intro c hc; simp [ctsL, h] at hc
  · rw [ctsL_may h]; exact (pathOf_ctTo h).2
theorem pathOf_ctsL {l : List Sg} (h : mayB l = true) : pathOf (ctsL l) = l := by rw [ctsL_may h]; exact (pathOf_ctTo h).1
theorem good_map {f : Ct → Ct} {cs : List Ct} (hf : ∀ c, GoodC c → GoodC (f c)) (h : ∀ c ∈ cs, GoodC c) : ∀ c ∈ cs.map f, GoodC c := by
  intro c hc
  rw [List.mem_map] at hc
  obtain ⟨d, hd, rfl⟩ := hc
  exact hf d (h d hd)
theorem backL_len_le (l : List Sg) : (backL l).length ≤ 300 := by
  unfold backL
  rw [pathOf_turn_len]
  cases h : mayB l
  · simp [ctsL, h, pathOf]
  · rw [pathOf_ctsL h]; exact (mayB_from h).2
theorem backL_len {l : List Sg} (h : mayB l = true) : (backL l).length = l.length := by
  unfold backL; rw [pathOf_turn_len, pathOf_ctsL h]
theorem mayB_pathOf {cs : List Ct} (h : ∀ c ∈ cs, GoodC c) : mayB (pathOf cs) = true ↔ (pathOf cs).length ≤ 300 ∧ ends cs = true := by
  unfold mayB
  rw [Bool.and_eq_true, decide_eq_true_eq, mayFrom_pathOf cs 0 h (by decide)]
theorem backL_may {l : List Sg} (h : mayB l = true) : mayB (backL l) = true := by
  have hg := ctsL_good l
  have h1 := h
  rw [← pathOf_ctsL h, mayB_pathOf hg] at h1
  unfold backL
  rw [mayB_pathOf (good_map (fun _ => GoodC.turn) hg), pathOf_turn_len, ends_map _ bare_turn]
  exact h1
/-- The contours of the pieces of good contours that make a valid path. -/
theorem ctsL_pathOf {cs : List Ct} (h : ∀ c ∈ cs, GoodC c) (hm : mayB (pathOf cs) = true) : ctsL (pathOf cs) = cs := by rw [ctsL_may hm, ctTo_pathOf h]
theorem ctsL_back {l : List Sg} (h : mayB l = true) : ctsL (backL l) = (ctsL l).map turnC := ctsL_pathOf (good_map (fun _ => GoodC.turn) (ctsL_good l)) (backL_may h)
theorem map_turn_turn {cs : List Ct} (h : ∀ c ∈ cs, GoodC c) : (cs.map turnC).map turnC = cs := by
  rw [List.map_map]
  conv => rhs; rw [← List.map_id cs]
  exact List.map_congr_left fun c hc => turn_turn (h c hc)
/-- Back twice. -/
theorem backL_back {l : List Sg} (h : mayB l = true) : backL (backL l) = l := by
  have : backL (backL l) = pathOf ((ctsL (backL l)).map turnC) := rfl
  rw [this, ctsL_back h, map_turn_turn (ctsL_good l), pathOf_ctsL h]

theorem flatL_back {l : List Sg} : flatL (backL l) = pathOf (((ctsL l).map flatC).map turnC) := by
  unfold flatL backL
  rw [flat_pathOf _ _ _ (good_map (fun _ => GoodC.turn) (ctsL_good l)), List.map_map, List.map_map]
  congr 1
  exact List.map_congr_left fun c hc => flat_turn (ctsL_good l c hc)
theorem flatL_cts {l : List Sg} (h : mayB l = true) : flatL l = pathOf ((ctsL l).map flatC) := by
  conv => lhs; rw [← pathOf_ctsL h]
  unfold flatL
  rw [flat_pathOf _ _ _ (ctsL_good l)]
theorem flat_back {l q r : List Sg} {e f : Int} (h : mayB l = true) (h1 : flatE (backL l) = (q, e)) (h2 : flatE l = (r, f)) : e = f ∧ q = backL r := by
  have hl : (flatL (backL l)).length = (flatL l).length := by rw [flatL_back, flatL_cts h, pathOf_turn_len]
  unfold flatE at h1 h2
  rw [h] at h2
  rw [backL_may h, hl] at h1
  simp only [Bool.true_eq_false, if_false] at h1 h2
  by_cases hov : 300 < (flatL l).length
  · rw [if_pos hov] at h1 h2
    injection h1 with a b; injection h2 with c d
    subst a; subst b; subst c; subst d
    exact ⟨rfl, rfl⟩
  · rw [if_neg hov] at h1 h2
    injection h1 with a b; injection h2 with c d
    subst a; subst b; subst c; subst d
    refine ⟨rfl, ?_⟩
    have hm := flatL_may h (by omega)
    have hgf := good_map (f := flatC) (fun _ => GoodC.flat) (ctsL_good l)
    have hc : ctsL (flatL l) = (ctsL l).map flatC := by
      rw [flatL_cts h] at hm ⊢
      exact ctsL_pathOf hgf hm
    unfold backL at *
    rw [hc]
    exact flatL_back

theorem cts_len (l : List Sg) : (ctsL l).length ≤ l.length := by
  unfold ctsL
  split
  · simp
  · exact ct_len l
theorem cts_es (l : List Sg) : ∀ c ∈ ctsL l, c.es.length ≤ l.length := by
  intro c hc
  unfold ctsL at hc
  split at hc
  · simp at hc
  · exact ct_es l c hc
theorem rev_take (es : List Ed) (j z : Nat) (h : z + 1 + j = es.length) (hz : z < es.length) :
    (((es.map flip).reverse.take (j + 1)).map sgE) = (((es.map flip).reverse.take j).map sgE) ++ [sgE (flip es[z])] := by
  rw [List.take_succ_eq_append_getElem (by simp; omega), List.map_append]
  congr 1
  simp only [List.map_cons, List.map_nil, List.getElem_reverse, List.getElem_map, List.length_map]
  congr 3
  congr 1
  omega
theorem turn_succ (cs : List Ct) (k : Nat) (h : k < cs.length) : pathOf ((cs.take (k + 1)).map turnC) = pathOf ((cs.take k).map turnC) ++ pathC (turnC cs[k]) := by
  rw [List.take_succ_eq_append_getElem h, List.map_append, List.map_singleton, pathOf_snoc]
theorem turn_take_le (cs : List Ct) (k : Nat) : (pathOf ((cs.take k).map turnC)).length ≤ (pathOf (cs.map turnC)).length := by
  rw [List.map_take]; exact pathOf_take_le _ _
theorem pathC_turn (c : Ct) : pathC (turnC c) = ⟨1, endX c.x c.es, endY c.y c.es, 0, 0⟩ :: (((c.es.map flip).reverse).map sgE ++ clL c.shut) := rfl
theorem endX_get (x : Int) (es : List Ed) (h : es.length - 1 < es.length) : endX x es = es[es.length - 1].x1 := by
  unfold endX; rw [List.getLast?_eq_getElem?, List.getElem?_eq_getElem h]; rfl
theorem endY_get (y : Int) (es : List Ed) (h : es.length - 1 < es.length) : endY y es = es[es.length - 1].y1 := by
  unfold endY; rw [List.getLast?_eq_getElem?, List.getElem?_eq_getElem h]; rfl

end Go.Proofs.YtdfkbbcoolgfiaaGreat

/- The plain law of PathJoins. -/
namespace Go.Proofs.YtdfkbbcoolgfiaaGreat

/-- The edge that closes a contour, where one is wanted. -/
def closeC (c : Ct) : List Ed := if endX c.x c.es = c.x ∧ endY c.y c.es = c.y then [] else [⟨endX c.x c.es, endY c.y c.es, false, 0, 0, c.x, c.y⟩]
/-- A contour's edges, closed. -/
def edgesC (c : Ct) : List Ed := c.es ++ closeC c
/-- The edges of a path. -/
def edgesL (l : List Sg) : List Ed := (ctsL l).flatMap edgesC

theorem ends_bare : ∀ (a : List Ct) (c : Ct), ends (a ++ [c]) = true → ∀ d ∈ a, bare d = false
  | [], _, _, d, hd => by simp at hd
  | [x], c, h, d, hd => by
    simp only [List.cons_append, List.nil_append, ends, Bool.and_eq_true, Bool.not_eq_true'] at h
    rw [List.mem_singleton] at hd; subst hd; exact h.1
  | x :: y :: a, c, h, d, hd => by
    simp only [List.cons_append, ends, Bool.and_eq_true, Bool.not_eq_true'] at h
    rcases List.mem_cons.1 hd with rfl | hd
    · exact h.1
    · exact ends_bare (y :: a) c (by simpa using h.2) d hd
theorem ends_app : ∀ (a b : List Ct), (∀ c ∈ a, bare c = false) → ends b = true → ends (a ++ b) = true
  | [], b, _, hb => hb
  | x :: a, b, ha, hb => by
    have ih := ends_app a b (fun c hc => ha c (by simp [hc])) hb
    rw [List.cons_append]
    cases hab : a ++ b with
    | nil => rfl
    | cons y r =>
      rw [hab] at ih
      simp only [ends, Bool.and_eq_true, Bool.not_eq_true']
      exact ⟨ha x (by simp), ih⟩
theorem lastK_pathC (c : Ct) (p : List Sg) : lastK (p ++ pathC c) = 1 ↔ bare c = true := by
  obtain ⟨x, y, es, b⟩ := c
  unfold lastK pathC bare
  cases b
  · simp only [clL, Bool.false_eq_true, if_false, List.append_nil, Bool.not_false, Bool.and_true]
    by_cases hn : es = []
    · subst hn; simp
    · obtain ⟨a, e, rfl⟩ := snoc_of_ne es hn
      have : (p ++ (⟨1, x, y, 0, 0⟩ :: (a ++ [e]).map sgE)).getLast? = some (sgE e) := by
        rw [List.map_append, List.map_singleton, ← List.cons_append, ← List.append_assoc, List.getLast?_append]; simp
      rw [this]
      rcases sgE_kind e with k | k <;> simp [k]
  · have : (p ++ (⟨1, x, y, 0, 0⟩ :: (es.map sgE ++ clL true))).getLast? = some ⟨4, 0, 0, 0, 0⟩ := by
      simp only [clL, if_true]
      rw [← List.cons_append, ← List.append_assoc, List.getLast?_append]; simp
    simp only
    rw [this]; simp
theorem bare_edges {c : Ct} (h : bare c = true) : edgesC c = [] ∧ pathC c = [⟨1, c.x, c.y, 0, 0⟩] := by
  obtain ⟨x, y, es, b⟩ := c
  simp only [bare, Bool.and_eq_true, Bool.not_eq_true', List.isEmpty_iff] at h
  obtain ⟨rfl, rfl⟩ := h
  simp [edgesC, closeC, endX, endY, pathC, clL]
theorem pathOf_app (a b : List Ct) : pathOf (a ++ b) = pathOf a ++ pathOf b := by simp [pathOf]
theorem longL_ok {l m : List Sg} (h : l.length + m.length ≤ 300) : longL l m = (l ++ m, 0) := by unfold longL; rw [if_neg (by omega)]
theorem lastK_ne {l : List Sg} (h : lastK l = 1) : l ≠ [] := by rintro rfl; cases h

theorem joins {l m : List Sg} (hl : mayB l = true) (hm : mayB m = true) (hlen : l.length + m.length ≤ 300) :
    ∃ J, joinL l m = (J, 0) ∧ J.length ≤ 300 ∧ mayB J = true ∧ edgesL J = edgesL l ++ edgesL m ∧ (ctsL J).length + (if lastK l = 1 ∧ m ≠ [] then 1 else 0) = (ctsL l).length + (ctsL m).length := by
  have el := pathOf_ctsL hl
  have em := pathOf_ctsL hm
  have gl := ctsL_good l
  have gm := ctsL_good m
  have hl' := hl
  have hm' := hm
  rw [← el, mayB_pathOf gl] at hl'
  rw [← em, mayB_pathOf gm] at hm'
  have key : ∀ cs : List Ct, (∀ c ∈ cs, GoodC c) → ends cs = true → (pathOf cs).length ≤ 300 → mayB (pathOf cs) = true ∧ ctsL (pathOf cs) = cs := fun cs g e hn => by
    have h := (mayB_pathOf g).2 ⟨hn, e⟩
    exact ⟨h, ctsL_pathOf g h⟩
  have hj : joinL l m = longL (if lastK l = 1 ∧ m ≠ [] then l.dropLast else l) m := by unfold joinL; rw [if_neg (by simp [hl, hm])]
  rw [hj]
  by_cases hc : lastK l = 1 ∧ m ≠ []
  · rw [if_pos hc, if_pos hc]
    have hne : ctsL l ≠ [] := fun e => lastK_ne hc.1 (by rw [← el, e]; rfl)
    obtain ⟨a, c, hac⟩ := snoc_of_ne _ hne
    have hbc : bare c = true := by
      rw [← lastK_pathC c (pathOf a), ← pathOf_snoc, ← hac, el]; exact hc.1
    have hdl : l.dropLast = pathOf a := by
      conv => lhs; rw [← el, hac, pathOf_snoc, (bare_edges hbc).2]
      simp
    rw [hac] at gl hl'
    have ha := ends_bare a c hl'.2
    have hJ : l.dropLast ++ m = pathOf (a ++ ctsL m) := by rw [pathOf_app, em, hdl]
    have hJl : (l.dropLast ++ m).length ≤ 300 := by rw [List.length_append, List.length_dropLast]; omega
    obtain ⟨h1, h2⟩ := key (a ++ ctsL m) (fun d hd => (List.mem_append.1 hd).elim (fun h => gl d (by simp [h])) (gm d)) (ends_app a _ ha hm'.2) (by rw [← hJ]; exact hJl)
    refine ⟨l.dropLast ++ m, longL_ok (by rw [List.length_dropLast]; omega), hJl, by rw [hJ]; exact h1, ?_, ?_⟩
    · unfold edgesL
      rw [hJ, h2, hac, List.flatMap_append, List.flatMap_append]
      simp [(bare_edges hbc).1]
    · rw [hJ, h2, hac, List.length_append, List.length_append]; simp; omega
  · rw [if_neg hc, if_neg hc]
    have hJ : l ++ m = pathOf (ctsL l ++ ctsL m) := by rw [pathOf_app, el, em]
    have hJl : (l ++ m).length ≤ 300 := by rw [List.length_append]; omega
    have hends : ends (ctsL l ++ ctsL m) = true := by
      by_cases hmn : m = []
      · have : ctsL m = [] := by rw [hmn]; rfl
        rw [this, List.append_nil]; exact hl'.2
      · refine ends_app _ _ (fun d hd => ?_) hm'.2
        have hne : ctsL l ≠ [] := fun e => by rw [e] at hd; simp at hd
        obtain ⟨a, c, hac⟩ := snoc_of_ne _ hne
        rw [hac] at hd hl'
        rcases List.mem_append.1 hd with h | h
        · exact ends_bare a c hl'.2 d h
        · rw [List.mem_singleton] at h; subst h
          cases hb : bare d
          · rfl
          · exact absurd ⟨by rw [← el, hac, pathOf_snoc]; exact (lastK_pathC d _).2 hb, hmn⟩ hc
    obtain ⟨h1, h2⟩ := key (ctsL l ++ ctsL m) (fun d hd => (List.mem_append.1 hd).elim (gl d) (gm d)) hends (by rw [← hJ]; exact hJl)
    refine ⟨l ++ m, longL_ok hlen, hJl, by rw [hJ]; exact h1, ?_, ?_⟩
    · unfold edgesL; rw [hJ, h2, List.flatMap_append]
    · rw [hJ, h2, List.length_append]; rfl
theorem join_nil {l : List Sg} (hl : mayB l = true) : joinL l [] = (l, 0) := by
  unfold joinL
  rw [if_neg (by rw [hl]; decide), if_neg (by simp), longL_ok (by have := (mayB_from hl).2; simpa using this)]; simp
theorem nil_join {m : List Sg} (hm : mayB m = true) : joinL [] m = (m, 0) := by
  unfold joinL
  rw [if_neg (by rw [hm]; decide), if_neg (by rintro ⟨h, _⟩; cases h), longL_ok (by have := (mayB_from hm).2; simpa using this)]; simp

end Go.Proofs.YtdfkbbcoolgfiaaGreat

/- The plain law of PathGrows: each step gives a valid path, or there is no point yet. -/
namespace Go.Proofs.YtdfkbbcoolgfiaaGreat

/-- What a step gives. -/
def Step (l : List Sg) (E : List Sg × Int) : Prop := (E.2 = 0 ∧ mayB E.1 = true ∧ E.1.length ≤ l.length + 2) ∨ (E.2 = 13 ∧ E.1 = [])

theorem may_snoc {l : List Sg} {s : Sg} (h : mayFrom 0 l = true) (hr : rightB s (lastK l) = true) (hl : l.length < 300) : mayB (l ++ [s]) = true := by
  unfold mayB
  rw [mayFrom_snoc, h, show (l.getLast?.map Sg.kind).getD 0 = lastK l from rfl, hr]
  simp; omega
theorem may_dropLast {l : List Sg} (h : mayB l = true) : mayFrom 0 l.dropLast = true ∧ (lastK l = 1 → lastK l.dropLast ≠ 1) := by
  by_cases hn : l = []
  · subst hn; exact ⟨rfl, fun e => by cases e⟩
  · have he := (List.dropLast_concat_getLast hn).symm
    have h1 := (mayB_from h).1
    obtain ⟨a, s, rfl⟩ := snoc_of_ne l hn
    rw [mayFrom_snoc, Bool.and_eq_true] at h1
    have hd : (a ++ [s]).dropLast = a := by simp
    rw [hd]
    refine ⟨h1.1, fun hk => ?_⟩
    have hs : s.kind = 1 := by rw [← hk]; simp [lastK]
    have := (rightB_iff.1 h1.2).2
    rcases this with ⟨_, h⟩ | ⟨h, _⟩
    · exact h
    · exact absurd hs h
theorem lastMv_co {l : List Sg} (h : mayB l = true) : co (lastMv l).1 = true ∧ co (lastMv l).2 = true := by
  unfold lastMv
  cases hf : l.reverse.find? (fun s => s.kind == 1) with
  | none => exact ⟨by decide, by decide⟩
  | some s =>
    have hm := List.mem_of_find?_eq_some hf
    rw [List.mem_reverse] at hm
    obtain ⟨k, hk, rfl⟩ := List.getElem_of_mem hm
    obtain ⟨c1, c2, _, _⟩ := pieceB_co (may_piece h k hk)
    exact ⟨c1, c2⟩
theorem grow_start {l : List Sg} (h : mayB l = true) (hl : l.length ≤ 298) {x y : Int} (hx : -8191 ≤ x ∧ x ≤ 8191) (hy : -8191 ≤ y ∧ y ≤ 8191) : Step l (startL l x y) := by
  have hr : ∀ a : Int, a ≠ 1 → rightB ⟨1, x, y, 0, 0⟩ a = true := fun a ha => (right_move (co_iff.2 hx) (co_iff.2 hy)).2 ha
  unfold startL
  rw [h, if_neg (by decide), if_neg (by simp [nearB, co_iff]; omega)]
  by_cases h1 : lastK l = 1
  · rw [if_pos h1, longL_ok (by rw [List.length_dropLast]; simp; omega)]
    obtain ⟨a1, a2⟩ := may_dropLast h
    exact .inl ⟨rfl, may_snoc a1 (hr _ (a2 h1)) (by rw [List.length_dropLast]; omega), by simp only [List.length_append, List.length_dropLast, List.length_singleton]; omega⟩
  · rw [if_neg h1, longL_ok (by simp; omega)]
    exact .inl ⟨rfl, may_snoc (mayB_from h).1 (hr _ h1) (by omega), by simp⟩
theorem grow_shut {l : List Sg} (h : mayB l = true) (hl : l.length ≤ 298) : Step l (shutL l) := by
  unfold shutL
  rw [h, if_neg (by decide)]
  by_cases h1 : l = [] ∨ lastK l = 4
  · rw [if_pos h1, longL_ok (by simp; omega)]
    exact .inl ⟨rfl, by simpa using h, by simp⟩
  · rw [if_neg h1, longL_ok (by simp; omega)]
    have h4 : lastK l ≠ 4 := fun e => h1 (.inr e)
    have h0 : lastK l ≠ 0 := by
      have hne : l ≠ [] := fun e => h1 (.inl e)
      have hp := List.length_pos_iff.2 hne
      rw [(last_get (l := l) (by omega)).1]
      have := (may_kind h (l.length - 1) (by omega)).1
      omega
    exact .inl ⟨rfl, may_snoc (mayB_from h).1 (rightB_iff.2 ⟨by decide, .inr ⟨by decide, h0, h4⟩⟩) (by omega), by simp⟩
theorem grow_on {l : List Sg} (h : mayB l = true) (hl : l.length ≤ 298) {s : Sg} (hs : pieceB s = true) (hk : s.kind = 2 ∨ s.kind = 3) : Step l (onL l s) := by
  obtain ⟨c1, c2, c3, c4⟩ := pieceB_co hs
  unfold onL
  rw [h, if_neg (by decide)]
  by_cases hne : l = []
  · rw [if_pos hne]; exact .inr ⟨rfl, rfl⟩
  · have hp := List.length_pos_iff.2 hne
    have h0 : lastK l ≠ 0 := by
      rw [(last_get (l := l) (by omega)).1]
      have := (may_kind h (l.length - 1) (by omega)).1
      omega
    have hk1 : s.kind ≠ 1 := by rcases hk with e | e <;> rw [e] <;> decide
    rw [if_neg hne, if_neg (by simp [nearB, c1, c2, c3, c4])]
    by_cases h4 : lastK l = 4
    · have hpt : ptL l = ((lastMv l).1, (lastMv l).2, true) := by unfold ptL; rw [if_neg (by rw [h]; simp [hne]), if_pos h4]
      rw [if_pos h4, longL_ok (by simp; omega), hpt]
      obtain ⟨m1, m2⟩ := lastMv_co h
      have hm := may_snoc (mayB_from h).1 ((right_move m1 m2).2 (show lastK l ≠ 1 by rw [h4]; decide)) (show l.length < 300 by omega)
      have := may_snoc (s := s) (mayB_from hm).1 (rightB_iff.2 ⟨hs, .inr ⟨hk1, by simp [lastK], by simp [lastK]⟩⟩) (by simp; omega)
      refine .inl ⟨rfl, ?_, by simp⟩
      simpa using this
    · rw [if_neg h4, longL_ok (by simp; omega)]
      exact .inl ⟨rfl, may_snoc (mayB_from h).1 (rightB_iff.2 ⟨hs, .inr ⟨hk1, h0, h4⟩⟩) (by omega), by simp⟩
theorem line_piece {x y : Int} (hx : -8191 ≤ x ∧ x ≤ 8191) (hy : -8191 ≤ y ∧ y ≤ 8191) : pieceB ⟨2, x, y, 0, 0⟩ = true := by simp [pieceB, co_iff]; omega
theorem bow_piece {x y : Int} (hx : -8191 ≤ x ∧ x ≤ 8191) (hy : -8191 ≤ y ∧ y ≤ 8191) : pieceB ⟨3, x, y, y, x⟩ = true := by simp [pieceB, co_iff]; omega

end Go.Proofs.YtdfkbbcoolgfiaaGreat

/- The plain side of layer 40: what a letter's program draws. -/
namespace Go.Proofs.YtdfkbbcoolgfiaaGreat

/-- A machine's state. -/
structure GM where
  wait : List Int
  l : List Sg
  x : Int
  y : Int
  wide : Int
  ops : Nat
  drawn : Bool
  over : Bool
/-- What comes out: an error, or a state. -/
inductive GR where
  | bad (e : Int)
  | ok (M : GM)

def takeG (M : GM) (r : List Sg × Int) : GR :=
  if r.2 = 0 then .ok { M with l := r.1, x := if (ptL r.1).2.2 then (ptL r.1).1 else M.x, y := if (ptL r.1).2.2 then (ptL r.1).2.1 else M.y } else .bad r.2
def moveG (M : GM) (a b : Int) : GR := takeG M (startL M.l (M.x + a) (M.y + b))
def lineG (M : GM) (a b : Int) : GR := takeG M (onL M.l ⟨2, M.x + a, M.y + b, 0, 0⟩)
def bowG (M : GM) (a b c d : Int) : GR := takeG M (onL M.l ⟨3, M.x + c, M.y + d, M.x + a, M.y + b⟩)
def shutG (M : GM) : GR := takeG M (shutL M.l)
def widthG (M : GM) (a : Int) : GR := if M.drawn then .bad 3 else if a < 0 ∨ 8191 < a then .bad 2 else .ok { M with wide := a }
def linesG (M : GM) : List Int → GR
  | a :: b :: v => match lineG M a b with
    | .bad e => .bad e
    | .ok M' => linesG M' v
  | _ => .ok M
/-- How many numbers an operator takes; -1: pairs. -/
def takesG (code : Nat) : Option Int :=
  if code = 1 ∨ code = 5 ∨ code = 6 then some 1 else if code = 2 ∨ code = 3 then some 2 else if code = 11 then some (-1) else if code = 4 then some 4 else if code = 7 ∨ code = 10 then some 0 else none
/-- What it does with them. -/
def opG (code : Nat) (M : GM) (v : List Int) : GR :=
  if code = 1 then widthG M (v[0]?.getD 0) else if code = 2 then moveG M (v[0]?.getD 0) (v[1]?.getD 0) else if code = 3 ∨ code = 11 then linesG M v
  else if code = 4 then bowG M (v[0]?.getD 0) (v[1]?.getD 0) (v[2]?.getD 0) (v[3]?.getD 0) else if code = 5 then lineG M (v[0]?.getD 0) 0 else if code = 6 then lineG M 0 (v[0]?.getD 0)
  else if code = 7 then shutG M else .ok { M with over := true }
def drawnG : GR → GR
  | .bad e => .bad e
  | .ok M => .ok { M with drawn := true }
def drawG (code : Nat) (M : GM) : GR :=
  match takesG code with
  | none => .bad 3
  | some t =>
    if (t < 0 ∧ (M.wait.length = 0 ∨ M.wait.length % 2 = 1)) ∨ (M.wait.length : Int) < t then .bad 7
    else if 0 ≤ t ∧ t < (M.wait.length : Int) then .bad 8
    else drawnG (opG code { M with wait := [] } M.wait)
/-- The piece that the last number tells. -/
def callG (np : Nat) (deeper : Nat → GM → GR) (M : GM) : GR :=
  match M.wait.getLast? with
  | none => .bad 7
  | some k => if k < 0 ∨ (np : Int) ≤ k then .bad 3 else deeper k.toNat { M with wait := M.wait.dropLast }
/-- A number that waits. -/
def pushG (M : GM) (v : Int) (k : GM → GR) : GR := if M.wait.length = 24 then .bad 8 else k { M with wait := M.wait ++ [v] }
/-- Behind an operator. -/
def thenG (r : GR) (k : GM → GR) : GR :=
  match r with
  | .bad e => .bad e
  | .ok M => if M.over then .ok M else k M
def i16 (v : Int) : Int := if v < 32768 then v else v - 65536
/-- A piece is run. -/
def runS (np : Nat) (deeper : Nat → GM → GR) (top : Bool) : List Nat → GM → GR
  | [], _ => .bad 4
  | b :: s, M =>
    if 32 ≤ b then
      if b ≤ 246 then pushG M ((b : Int) - 139) (runS np deeper top s)
      else if b = 255 then
        match s with
        | c :: d :: s' => pushG M (i16 ((c : Int) * 256 + d)) (runS np deeper top s')
        | _ => .bad 4
      else
        match s with
        | c :: s' => pushG M (if b ≤ 250 then 256 * ((b : Int) - 247) + c + 108 else -256 * ((b : Int) - 251) - c - 108) (runS np deeper top s')
        | [] => .bad 4
    else if 1000 < M.ops + 1 then .bad 5
    else if b = 8 then thenG (callG np deeper { M with ops := M.ops + 1 }) (runS np deeper top s)
    else if b = 9 then if top then .bad 3 else .ok { M with ops := M.ops + 1 }
    else thenG (drawG b { M with ops := M.ops + 1 }) (runS np deeper top s)
/-- So much deeper at most. -/
def runD (P : List (List Nat)) : Nat → Bool → List Nat → GM → GR
  | 0, top, s, M => runS P.length (fun _ _ => .bad 5) top s M
  | d + 1, top, s, M => runS P.length (fun k M => runD P d false (P[k]?.getD []) M) top s M
/-- The pieces, and the main one. -/
def piecesG : Nat → List Nat → List (List Nat) → Option (List (List Nat) × List Nat)
  | 0, s, acc => some (acc, s)
  | _ + 1, [], _ => none
  | n + 1, k :: s, acc => if s.length < k then none else piecesG n (s.drop k) (acc ++ [s.take k])
def splitG (p : List Nat) : (List (List Nat) × List Nat) × Int :=
  if 600 < p.length then (([], []), 5) else
  match p with
  | [] => (([], []), 4)
  | n :: s => if 16 < n then (([], []), 3) else
    match piecesG n s [] with
    | none => (([], []), 4)
    | some r => (r, 0)
def startG : GM := ⟨[], [], 0, 0, 0, 0, false, false⟩
def endG : GR → (List Sg × Int) × Int
  | .bad e => (([], 0), e)
  | .ok M => ((M.l, M.wide), 0)
/-- What a program draws. -/
def RunG (p : List Nat) : (List Sg × Int) × Int :=
  if (splitG p).2 = 0 then endG (runD (splitG p).1.1 4 true (splitG p).1.2 startG) else (([], 0), (splitG p).2)

/-- A number at the beginning, and how many bytes it has. -/
def numG : List Nat → Option (Int × Nat)
  | [] => none
  | b :: s => if b ≤ 246 then some ((b : Int) - 139, 1) else if b = 255 then (match s with
    | c :: d :: _ => some (i16 ((c : Int) * 256 + d), 3)
    | _ => none) else match s with
    | c :: _ => some (if b ≤ 250 then 256 * ((b : Int) - 247) + c + 108 else -256 * ((b : Int) - 251) - c - 108, 2)
    | [] => none
theorem runS_num {np : Nat} {deeper : Nat → GM → GR} {top : Bool} {b : Nat} {s : List Nat} (M : GM) (h : 32 ≤ b) :
    runS np deeper top (b :: s) M = match numG (b :: s) with
      | none => .bad 4
      | some (v, n) => pushG M v (runS np deeper top ((b :: s).drop n)) := by
  rw [runS.eq_def]
  simp only [if_pos h, numG]
  by_cases h1 : b ≤ 246
  · simp only [if_pos h1, List.drop_succ_cons, List.drop_zero]
  · simp only [if_neg h1]
    by_cases h2 : b = 255
    · simp only [if_pos h2]
      match s with
      | [] => rfl
      | [_] => rfl
      | _ :: _ :: _ => rfl
    · simp only [if_neg h2]
      match s with
      | [] => rfl
      | _ :: _ => rfl
theorem runS_op {np : Nat} {deeper : Nat → GM → GR} {top : Bool} {b : Nat} {s : List Nat} (M : GM) (h : ¬ 32 ≤ b) :
    runS np deeper top (b :: s) M = if 1000 < M.ops + 1 then .bad 5
    else if b = 8 then thenG (callG np deeper { M with ops := M.ops + 1 }) (runS np deeper top s)
    else if b = 9 then if top then .bad 3 else .ok { M with ops := M.ops + 1 }
    else thenG (drawG b { M with ops := M.ops + 1 }) (runS np deeper top s) := by
  rw [runS.eq_def]; simp only [if_neg h]
theorem numG_len {s : List Nat} {v : Int} {n : Nat} (h : numG s = some (v, n)) : 1 ≤ n ∧ n ≤ s.length := by
  match s with
  | [] => cases h
  | b :: s =>
    simp only [numG] at h
    by_cases h1 : b ≤ 246
    · rw [if_pos h1] at h
      simp only [Option.some.injEq, Prod.mk.injEq] at h; simp only [List.length_cons]; omega
    · rw [if_neg h1] at h
      by_cases h2 : b = 255
      · rw [if_pos h2] at h
        match s with
        | [] => cases h
        | [_] => cases h
        | _ :: _ :: _ => simp only [Option.some.injEq, Prod.mk.injEq] at h; simp only [List.length_cons]; omega
      · rw [if_neg h2] at h
        match s with
        | [] => cases h
        | _ :: _ => simp only [Option.some.injEq, Prod.mk.injEq] at h; simp only [List.length_cons]; omega

theorem co_iff' {z : Int} : co z = true ↔ -8191 ≤ z ∧ z ≤ 8191 := by simp [co]
theorem ptL_co {l : List Sg} (h : (ptL l).2.2 = true) : co (ptL l).1 = true ∧ co (ptL l).2.1 = true := by
  unfold ptL at h ⊢
  split at h
  · cases h
  · rename_i hn
    rw [if_neg hn]
    have hm : mayB l = true := by cases hh : mayB l; exact absurd (.inr hh) hn; rfl
    have h0 : l ≠ [] := fun e => hn (.inl e)
    split
    · exact lastMv_co hm
    · have hp := List.length_pos_iff.2 h0
      obtain ⟨_, g2, g3⟩ := last_get (l := l) (by omega)
      obtain ⟨c1, c2, _, _⟩ := pieceB_co (may_piece hm (l.length - 1) (by omega))
      simp only [g2, g3]
      exact ⟨c1, c2⟩
theorem longL_zero {l m : List Sg} (h : (longL l m).2 = 0) : longL l m = (l ++ m, 0) ∧ l.length + m.length ≤ 300 := by
  unfold longL at h ⊢
  split at h
  · cases h
  · rename_i hn; rw [if_neg hn]; exact ⟨rfl, by omega⟩
theorem near_sg {x y : Int} (h : ¬ nearB [x, y] = false) : co x = true ∧ co y = true := by
  cases h1 : nearB [x, y]
  · exact absurd h1 h
  · simpa [nearB] using h1
theorem start_may {l : List Sg} {x y : Int} (h : (startL l x y).2 = 0) : mayB (startL l x y).1 = true := by
  unfold startL at h ⊢
  split at h
  · cases h
  · rename_i hm
    rw [if_neg hm]
    have hm : mayB l = true := by cases hh : mayB l; exact absurd hh hm; rfl
    split at h
    · cases h
    · rename_i hn
      rw [if_neg hn]
      obtain ⟨cx, cy⟩ := near_sg hn
      obtain ⟨e1, e2⟩ := longL_zero h
      rw [e1]
      have hr : ∀ a : Int, a ≠ 1 → rightB ⟨1, x, y, 0, 0⟩ a = true := fun a ha => (right_move cx cy).2 ha
      by_cases h1 : lastK l = 1
      · rw [if_pos h1] at e2 ⊢
        obtain ⟨a1, a2⟩ := may_dropLast hm
        exact may_snoc a1 (hr _ (a2 h1)) (by simp only [List.length_singleton] at e2; omega)
      · rw [if_neg h1] at e2 ⊢
        exact may_snoc (mayB_from hm).1 (hr _ h1) (by simp only [List.length_singleton] at e2; omega)
theorem shut_may {l : List Sg} (h : (shutL l).2 = 0) : mayB (shutL l).1 = true := by
  unfold shutL at h ⊢
  split at h
  · cases h
  · rename_i hm
    rw [if_neg hm]
    have hm : mayB l = true := by cases hh : mayB l; exact absurd hh hm; rfl
    by_cases h1 : l = [] ∨ lastK l = 4
    · rw [if_pos h1] at h ⊢
      rw [(longL_zero h).1, List.append_nil]; exact hm
    · rw [if_neg h1] at h ⊢
      obtain ⟨e1, e2⟩ := longL_zero h
      rw [e1]
      have h4 : lastK l ≠ 4 := fun e => h1 (.inr e)
      have h0 : lastK l ≠ 0 := by
        have hne : l ≠ [] := fun e => h1 (.inl e)
        have hp := List.length_pos_iff.2 hne
        rw [(last_get (l := l) (by omega)).1]
        have := (may_kind hm (l.length - 1) (by omega)).1
        omega
      exact may_snoc (mayB_from hm).1 (rightB_iff.2 ⟨by decide, .inr ⟨by decide, h0, h4⟩⟩) (by simp only [List.length_singleton] at e2; omega)
theorem on_may {l : List Sg} {s : Sg} (hk : s.kind = 3 ∨ (s.kind = 2 ∧ s.cx = 0 ∧ s.cy = 0)) (h : (onL l s).2 = 0) : mayB (onL l s).1 = true := by
  unfold onL at h ⊢
  split at h
  · cases h
  · rename_i hm
    rw [if_neg hm]
    have hm : mayB l = true := by cases hh : mayB l; exact absurd hh hm; rfl
    split at h
    · cases h
    · rename_i hne
      rw [if_neg hne]
      split at h
      · cases h
      · rename_i hn
        rw [if_neg hn]
        have hs : pieceB s = true := by
          have hn' : nearB [s.x, s.y, s.cx, s.cy] = true := by cases hh : nearB [s.x, s.y, s.cx, s.cy]; exact absurd hh hn; rfl
          obtain ⟨k, x, y, cx, cy⟩ := s
          simp only at hk hn'
          rcases hk with rfl | ⟨rfl, rfl, rfl⟩
          · simp [nearB] at hn'; simp [pieceB, hn']
          · simp [nearB] at hn'; simp [pieceB, hn']
        have hk1 : s.kind ≠ 1 := by rcases hk with e | e <;> omega
        have hp := List.length_pos_iff.2 hne
        have h0 : lastK l ≠ 0 := by
          rw [(last_get (l := l) (by omega)).1]
          have := (may_kind hm (l.length - 1) (by omega)).1
          omega
        by_cases h4 : lastK l = 4
        · have hpt : ptL l = ((lastMv l).1, (lastMv l).2, true) := by unfold ptL; rw [if_neg (by rw [hm]; simp [hne]), if_pos h4]
          rw [if_pos h4, hpt] at h ⊢
          obtain ⟨e1, e2⟩ := longL_zero h
          rw [e1]
          simp only [List.length_cons, List.length_nil] at e2
          obtain ⟨m1, m2⟩ := lastMv_co hm
          have hmv := may_snoc (mayB_from hm).1 ((right_move m1 m2).2 (show lastK l ≠ 1 by rw [h4]; decide)) (show l.length < 300 by omega)
          have := may_snoc (s := s) (mayB_from hmv).1 (rightB_iff.2 ⟨hs, .inr ⟨hk1, by simp [lastK], by simp [lastK]⟩⟩) (by simp; omega)
          simpa using this
        · rw [if_neg h4] at h ⊢
          obtain ⟨e1, e2⟩ := longL_zero h
          rw [e1]
          simp only [List.length_cons, List.length_nil] at e2
          exact may_snoc (mayB_from hm).1 (rightB_iff.2 ⟨hs, .inr ⟨hk1, h0, h4⟩⟩) (by omega)
/-- What a machine's state keeps. -/
structure GOK (M : GM) : Prop where
  w24 : M.wait.length ≤ 24
  wv : ∀ v ∈ M.wait, -33000 ≤ v ∧ v ≤ 33000
  x : -8191 ≤ M.x ∧ M.x ≤ 8191
  y : -8191 ≤ M.y ∧ M.y ≤ 8191
  may : mayB M.l = true
  wide : 0 ≤ M.wide ∧ M.wide ≤ 8191
  ops : M.ops ≤ 1000
theorem GOK.take {M M' : GM} (h : GOK M) {r : List Sg × Int} (hr : r.2 = 0 → mayB r.1 = true) (he : takeG M r = .ok M') : GOK M' := by
  unfold takeG at he
  split at he
  · rename_i h0
    cases he
    refine ⟨h.w24, h.wv, ?_, ?_, hr h0, h.wide, h.ops⟩
    · simp only
      split
      · rename_i hp; exact co_iff'.1 (ptL_co hp).1
      · exact h.x
    · simp only
      split
      · rename_i hp; exact co_iff'.1 (ptL_co hp).2
      · exact h.y
  · cases he
end Go.Proofs.YtdfkbbcoolgfiaaGreat

/- A region that draws its order and whose calls give fresh memory: loads are taken first while a condition on the world holds; from the number c on the condition may fall. -/
namespace Go.Proofs.YtdfkbbcoolgfiaaGreat
open Go.RowKit

section
variable {P : Program} {md : Region.Mode} {ops : Array Oper} {S : World → Prop} {Q : Exit → Act → World → Prop}

/-- Operations ahead of c keep S; behind them: whatever. -/
def wpAnyN (P : Program) (md : Region.Mode) (ops : Array Oper) (Q : Exit → Act → World → Prop) (S : World → Prop) (c : List Nat) : Nat → Array Bool → Act → World → Prop
  | 0, listed, a, w => Region.ready md ops listed = [] ∧ Q .normal a w
  | fuel + 1, listed, a, w =>
    (Region.ready md ops listed = [] → Q .normal a w) ∧
    ∀ i ∈ Region.ready md ops listed, if c.contains i = false then wpOp P ops Q i (fun a' w' => S w' ∧ wpAnyN P md ops Q S c fuel (listed.setIfInBounds i true) a' w') a w else wpOp P ops Q i (wpAny P md ops Q fuel (listed.setIfInBounds i true)) a w
theorem wpAny_of_N {c : List Nat} : ∀ (fuel : Nat) (listed : Array Bool) (a : Act) (w : World), wpAnyN P md ops Q S c fuel listed a w → wpAny P md ops Q fuel listed a w
  | 0, _, _, _, h => h
  | fuel + 1, _, _, _, h => ⟨h.1, fun i hi => by
      have h1 := h.2 i hi
      split at h1
      · exact wpOp_mono (fun a' w' h' => wpAny_of_N fuel _ a' w' h'.2) h1
      · exact h1⟩
theorem wpAnyN_first {c : List Nat} {i : Nat} {oi : Oper} {v : Value} {bs : List Nat} (hi : ops[i]? = some oi) (hic : c.contains i = false) (hsel : ∀ (j : Nat) (o : Oper) cs b, ops[j]? = some o → o.op ≠ .select cs b)
    (hQ : ∀ c a w, Q (.panic c) (a.put oi.dst v) w → Q (.panic c) a w)
    (hw : ∀ d ∈ bs, waitsOn md ops i bs d = true) (hc : ∀ d, d < ops.size → c.contains d = false ∨ d ∈ bs) :
    ∀ (fuel : Nat) (listed : Array Bool) (a : Act) (w : World),
      (∀ j oj, ops[j]? = some oj → j ≠ i → listed.getD j true = false → (∀ e ∈ oj.after, Region.binds md e = true → e.on ≠ i) → oi.apart ops oj = true) →
      (∀ d ∈ bs, listed.getD d false = false) →
      i ∈ Region.ready md ops listed → YieldsIf P ops S oi v a → S w →
      wpAnyN P md ops Q S c fuel (listed.setIfInBounds i true) (a.put oi.dst v) w → wpAnyN P md ops Q S c (fuel + 1) listed a w := by
  intro fuel
  induction fuel with
  | zero =>
    intro listed a w _ _ hr hy hS H
    refine ⟨fun h => (by rw [h] at hr; cases hr), fun j hj => ?_⟩
    by_cases hji : j = i
    · subst hji; rw [if_pos hic]; exact hy.wpOp hi hS ⟨hS, H⟩
    · have := ready_mono hj hji
      rw [H.1] at this
      cases this
  | succ fuel ih =>
    intro listed a w hfree hu hr hy hS H
    refine ⟨fun h => (by rw [h] at hr; cases hr), fun j hj => ?_⟩
    by_cases hji : j = i
    · subst hji; rw [if_pos hic]; exact hy.wpOp hi hS ⟨hS, H⟩
    · have hnb := not_blk hw hu (mem_ready.1 hr).1 hj
      obtain ⟨hjun, oj, hoj, hall⟩ := mem_ready.1 hj
      have hjs : j < ops.size := (Array.getElem?_eq_some_iff.1 hoj).1
      have hjc : c.contains j = false := (hc j hjs).resolve_right hnb
      have h1 := H.2 j (ready_mono hj hji)
      rw [if_pos hjc] at h1 ⊢
      have hnot : ∀ e ∈ oj.after, Region.binds md e = true → e.on ≠ i := fun e he hb heq => by
        have h1 := hall e he hb
        have h0 := (mem_ready.1 hr).1
        rw [heq] at h1
        rcases Nat.lt_or_ge i listed.size with h' | h'
        · simp [h'] at h0 h1; rw [h0] at h1; cases h1
        · simp [Array.getElem?_eq_none h'] at h1
      have h2 := wpOp_putIf hoj (hfree j oj hoj hji hjun hnot) (fun cs b => hsel i oi cs b hi) (fun cs b => hsel j oj cs b hoj) hQ hy h1
      have hfree' : ∀ k ok, ops[k]? = some ok → k ≠ i → (listed.setIfInBounds j true).getD k true = false →
          (∀ e ∈ ok.after, Region.binds md e = true → e.on ≠ i) → oi.apart ops ok = true := fun k ok hk hki hun hno => by
        refine hfree k ok hk hki ?_ hno
        by_cases hjk : j = k
        · subst hjk; exact hjun
        · rw [getD_set_ne true hjk] at hun; exact hun
      have hu' : ∀ d ∈ bs, (listed.setIfInBounds j true).getD d false = false := fun d hd => by
        have hjd : j ≠ d := fun e => hnb (e ▸ hd)
        rw [getD_set_ne false hjd]; exact hu d hd
      refine wpOp_mono (fun a' w' h3 => ⟨h3.2.1, ih (listed.setIfInBounds j true) a' w' hfree' hu' (ready_mono hr (Ne.symm hji)) h3.1 h3.2.1 ?_⟩) h2
      rw [Array.setIfInBounds_comm _ _ hji]
      exact h3.2.2

/-- All of c wait for number i. -/
def blkN (md : Region.Mode) (ops : Array Oper) (c : List Nat) (listed : Array Bool) (i : Nat) : Bool :=
  (blkL md ops i).all (fun d => !listed.getD d false && waitsOn md ops i (blkL md ops i) d) && (List.range ops.size).all fun d => !c.contains d || (blkL md ops i).contains d
def ordT (md : Region.Mode) (ops : Array Oper) (c : List Nat) (listed : Array Bool) (k : Nat) : Bool :=
  (Region.ready md ops listed).contains k && Region.free md ops listed k && !c.contains k && blkN md ops c listed k
/-- An operation that yields the same in every world that meets S is taken first. -/
theorem ord_take {c : List Nat} {fuel : Nat} {listed : Array Bool} {a : Act} {w : World} (k : Nat) {o : Oper} {v : Value} {d : Tmp} (h0 : ops[k]? = some o) (hd : o.dst = some d) (hs : Region.noSelect ops = true) (hB : ordT md ops c listed k = true)
    (hQ : ∀ c a w, Q (.panic c) (a.put o.dst v) w → Q (.panic c) a w) (hy : YieldsIf P ops S o v a) (hS : S w)
    (h : wpAnyN P md ops Q S c fuel (listed.setIfInBounds k true) (a.put (some d) v) w) : wpAnyN P md ops Q S c (fuel + 1) listed a w := by
  rw [← hd] at h
  simp only [ordT, Bool.and_eq_true, Bool.not_eq_true'] at hB
  obtain ⟨⟨⟨hr, hf⟩, hkc⟩, hb⟩ := hB
  simp only [blkN, Bool.and_eq_true, List.all_eq_true, Bool.not_eq_true', List.mem_range, Bool.or_eq_true] at hb
  obtain ⟨hb1, hb2⟩ := hb
  exact wpAnyN_first h0 hkc (Region.noSelect_spec hs) hQ (fun d hd => (hb1 d hd).2) (fun d hd => (hb2 d hd).imp id (fun h => by simpa using h)) fuel listed a w (Region.free_spec h0 hf) (fun d hd => (hb1 d hd).1) (by simpa using hr) hy hS h
/-- The only one that may come up, ahead of c: S is shown anew behind it. -/
theorem ord_one {c : List Nat} {fuel : Nat} {listed : Array Bool} {a : Act} {w : World} (k : Nat) {o : Oper} (h0 : ops[k]? = some o) (hr : Region.ready md ops listed = [k]) (hkc : c.contains k = false)
    (h : ∀ K : Act → World → Prop, Hid (∀ a' w', S w' → wpAnyN P md ops Q S c fuel (listed.setIfInBounds k true) a' w' → K a' w') → if Region.wanted o (yielded ops a.tmps) = true then Oper.wp P o a w K Q else K (a.put o.dst undef) w) :
    wpAnyN P md ops Q S c (fuel + 1) listed a w := by
  refine ⟨fun he => (by rw [hr] at he; cases he), fun i hi => ?_⟩
  rw [hr, List.mem_singleton] at hi
  subst hi
  rw [if_pos hkc]
  unfold wpOp
  simp only [h0]
  have h3 := h (fun a' w' => S w' ∧ wpAnyN P md ops Q S c fuel (listed.setIfInBounds i true) a' w') (Lib.hid fun _ _ h1 h2 => And.intro h1 h2)
  by_cases hw : Region.wanted o (yielded ops a.tmps) = true
  · rw [if_pos hw] at h3 ⊢; exact .inl h3
  · rw [if_neg hw] at h3 ⊢; exact h3
/-- From here on all that may come up has a number from c on: the condition falls. -/
theorem ord_cut {c : List Nat} {fuel : Nat} {listed : Array Bool} {a : Act} {w : World} (hr : (Region.ready md ops listed).all (fun i => c.contains i) = true) (h : wpAny P md ops Q (fuel + 1) listed a w) :
    wpAnyN P md ops Q S c (fuel + 1) listed a w := by
  simp only [List.all_eq_true] at hr
  refine ⟨h.1, fun i hi => ?_⟩
  rw [if_neg (by rw [hr i hi]; simp)]
  exact h.2 i hi
/-- The only one that may come up, from c on. -/
theorem any_one {fuel : Nat} {listed : Array Bool} {a : Act} {w : World} (k : Nat) {o : Oper} (h0 : ops[k]? = some o) (hr : Region.ready md ops listed = [k])
    (h : ∀ K : Act → World → Prop, Hid (∀ a' w', wpAny P md ops Q fuel (listed.setIfInBounds k true) a' w' → K a' w') → if Region.wanted o (yielded ops a.tmps) = true then Oper.wp P o a w K Q else K (a.put o.dst undef) w) :
    wpAny P md ops Q (fuel + 1) listed a w := by
  refine ⟨fun he => (by rw [hr] at he; cases he), fun i hi => ?_⟩
  rw [hr, List.mem_singleton] at hi
  subst hi
  unfold wpOp
  simp only [h0]
  have h3 := h (fun a' w' => wpAny P md ops Q fuel (listed.setIfInBounds i true) a' w') (Lib.hid fun _ _ h1 => h1)
  by_cases hw : Region.wanted o (yielded ops a.tmps) = true
  · rw [if_pos hw] at h3 ⊢; exact .inl h3
  · rw [if_neg hw] at h3 ⊢; exact h3
theorem any_done {listed : Array Bool} {a : Act} {w : World} {fuel : Nat} (hr : Region.ready md ops listed = []) (h : Q .normal a w) : wpAny P md ops Q fuel listed a w := by
  cases fuel with
  | zero => exact ⟨hr, h⟩
  | succ n => exact ⟨fun _ => h, fun i hi => by rw [hr] at hi; cases hi⟩
/-- Such a region of n operations begins. -/
theorem wp_region_ord {id : Nat} {a : Act} {w : World} (S : World → Prop) (c : List Nat) (n : Nat) (hm : P.follows .mixedOrders = true) (hn : ops.size = n) (hS : S w.drew)
    (h : S w.drew → wpAnyN P .any ops (NoPanic Q) S c n (Array.replicate n false) a w.drew) : (Code.region id ops true).wp P Q a w := by
  subst hn
  exact wp_region_noPanic (wp_region_any hm (wpAny_of_N _ _ _ _ (h hS)))
end
end Go.Proofs.YtdfkbbcoolgfiaaGreat

/- The reference's machine, plainly: a stack of pieces that are run; what is left to do. -/
namespace Go.Proofs.YtdfkbbcoolgfiaaGreat

/-- What is left: pieces' bytes, the innermost one first. -/
def kont (P : List (List Nat)) : List (List Nat) → GR → GR
  | [], r => r
  | s :: fs, r => kont P fs (thenG r (runD P (4 - fs.length) (fs.length == 0) s))
theorem kont_bad (P : List (List Nat)) (e : Int) : ∀ fs, kont P fs (.bad e) = .bad e
  | [] => rfl
  | s :: fs => by unfold kont; exact kont_bad P e fs
theorem kont_over (P : List (List Nat)) {M : GM} (h : M.over = true) : ∀ fs, kont P fs (.ok M) = .ok M
  | [] => rfl
  | s :: fs => by unfold kont; simp only [thenG, h, if_true]; exact kont_over P h fs
theorem kont_ok (P : List (List Nat)) {M : GM} (h : M.over = false) (s : List Nat) (fs : List (List Nat)) : kont P (s :: fs) (.ok M) = kont P fs (runD P (4 - fs.length) (fs.length == 0) s M) := by
  rw [kont]; simp only [thenG, h, Bool.false_eq_true, if_false]
def deepF (P : List (List Nat)) : Nat → Nat → GM → GR
  | 0 => fun _ _ => .bad 5
  | d + 1 => fun k M => runD P d false (P[k]?.getD []) M
theorem runD_is (P : List (List Nat)) (d : Nat) (top : Bool) (s : List Nat) (M : GM) : runD P d top s M = runS P.length (deepF P d) top s M := by
  cases d <;> rfl
theorem runD_fun (P : List (List Nat)) (d : Nat) (top : Bool) (s : List Nat) : runD P d top s = runS P.length (deepF P d) top s := funext fun M => runD_is P d top s M
section
variable {P : List (List Nat)} {M : GM} {fs : List (List Nat)} {s : List Nat} {b : Nat}
theorem kont_end (h : M.over = false) : kont P ([] :: fs) (.ok M) = .bad 4 := by
  rw [kont_ok P h, runD_is, runS.eq_def]; exact kont_bad P 4 fs
theorem kont_num (h : M.over = false) (hb : 32 ≤ b) : kont P ((b :: s) :: fs) (.ok M) = match numG (b :: s) with
      | none => .bad 4
      | some (v, n) => if M.wait.length = 24 then .bad 8 else kont P ((b :: s).drop n :: fs) (.ok { M with wait := M.wait ++ [v] }) := by
  rw [kont_ok P h, runD_is, runS_num M hb]
  cases hn : numG (b :: s) with
  | none => exact kont_bad P 4 fs
  | some vn =>
    obtain ⟨v, n⟩ := vn
    simp only [pushG]
    by_cases h24 : M.wait.length = 24
    · rw [if_pos h24, if_pos h24]; exact kont_bad P 8 fs
    · rw [if_neg h24, if_neg h24, kont_ok P (by exact h), runD_is]
theorem kont_lim (h : M.over = false) (hb : ¬ 32 ≤ b) (ho : 1000 < M.ops + 1) : kont P ((b :: s) :: fs) (.ok M) = .bad 5 := by
  rw [kont_ok P h, runD_is, runS_op M hb, if_pos ho]; exact kont_bad P 5 fs
theorem kont_call (h : M.over = false) (ho : ¬ 1000 < M.ops + 1) (hf : fs.length ≤ 4) : kont P ((8 :: s) :: fs) (.ok M) = match M.wait.getLast? with
      | none => .bad 7
      | some k => if k < 0 ∨ (P.length : Int) ≤ k then .bad 3 else if fs.length = 4 then .bad 5 else kont P ((P[k.toNat]?.getD []) :: s :: fs) (.ok { M with ops := M.ops + 1, wait := M.wait.dropLast }) := by
  rw [kont_ok P h, runD_is, runS_op M (by omega), if_neg ho, if_pos rfl]
  unfold callG
  simp only
  cases hl : M.wait.getLast? with
  | none => simp only [thenG]; exact kont_bad P 7 fs
  | some k =>
    simp only
    by_cases hk : k < 0 ∨ (P.length : Int) ≤ k
    · rw [if_pos hk, if_pos hk]; simp only [thenG]; exact kont_bad P 3 fs
    · rw [if_neg hk, if_neg hk]
      by_cases h4 : fs.length = 4
      · rw [if_pos h4, h4]; simp only [Nat.sub_self, deepF, thenG]; exact kont_bad P 5 fs
      · rw [if_neg h4, kont_ok P (by exact h), kont, List.length_cons]
        obtain ⟨d, hd⟩ : ∃ d, 4 - fs.length = d + 1 := ⟨3 - fs.length, by omega⟩
        have hd2 : 4 - (fs.length + 1) = d := by omega
        have h1 : (fs.length + 1 == 0) = false := by simp
        rw [hd2, h1, hd]
        congr 1
theorem kont_back0 (h : M.over = false) (ho : ¬ 1000 < M.ops + 1) : kont P [(9 :: s)] (.ok M) = .bad 3 := by
  rw [kont_ok P h, runD_is, runS_op M (by omega), if_neg ho, if_neg (by omega), if_pos rfl]; rfl
theorem kont_back (h : M.over = false) (ho : ¬ 1000 < M.ops + 1) (hf : fs ≠ []) : kont P ((9 :: s) :: fs) (.ok M) = kont P fs (.ok { M with ops := M.ops + 1 }) := by
  have h1 : (fs.length == 0) = false := by simpa using hf
  rw [kont_ok P h, runD_is, runS_op M (by omega), if_neg ho, if_neg (by omega), if_pos rfl, h1]; rfl
theorem kont_draw (h : M.over = false) (hb : ¬ 32 ≤ b) (ho : ¬ 1000 < M.ops + 1) (h8 : b ≠ 8) (h9 : b ≠ 9) : kont P ((b :: s) :: fs) (.ok M) = match drawG b { M with ops := M.ops + 1 } with
      | .bad e => .bad e
      | .ok M' => if M'.over then .ok M' else kont P (s :: fs) (.ok M') := by
  rw [kont_ok P h, runD_is, runS_op M hb, if_neg ho, if_neg h8, if_neg h9]
  cases hd : drawG b { M with ops := M.ops + 1 } with
  | bad e => simp only [thenG]; exact kont_bad P e fs
  | ok M' =>
    simp only [thenG]
    cases hv : M'.over
    · simp only [Bool.false_eq_true, if_false]; rw [kont_ok P hv, runD_is]
    · simp only [if_true]; exact kont_over P hv fs
end

/-- Behind a piece that is no Close: where the path is. -/
theorem ptL_snoc {l : List Sg} {s : Sg} (hm : mayB (l ++ [s]) = true) (hk : s.kind ≠ 4) : ptL (l ++ [s]) = (s.x, s.y, true) := by
  have hne : ¬ (l ++ [s] = [] ∨ mayB (l ++ [s]) = false) := by rw [hm]; simp
  have hl : lastK (l ++ [s]) = s.kind := by simp [lastK]
  unfold ptL
  rw [if_neg hne, hl, if_neg hk]
  simp [lastX, lastY]
theorem ptL_start {l : List Sg} {x y : Int} (h : (startL l x y).2 = 0) : ptL (startL l x y).1 = (x, y, true) := by
  have hm := start_may h
  unfold startL at h hm ⊢
  split at h
  · cases h
  · rename_i h1
    rw [if_neg h1] at hm ⊢
    split at h
    · cases h
    · rename_i h2
      rw [if_neg h2] at hm ⊢
      obtain ⟨e1, -⟩ := longL_zero h
      rw [e1] at hm ⊢
      exact ptL_snoc hm (by simp)
theorem ptL_on {l : List Sg} {s : Sg} (hk : s.kind = 3 ∨ (s.kind = 2 ∧ s.cx = 0 ∧ s.cy = 0)) (h : (onL l s).2 = 0) : ptL (onL l s).1 = (s.x, s.y, true) := by
  have hm := on_may hk h
  have hk4 : s.kind ≠ 4 := by omega
  unfold onL at h hm ⊢
  split at h
  · cases h
  · rename_i h1
    rw [if_neg h1] at hm ⊢
    split at h
    · cases h
    · rename_i h2
      rw [if_neg h2] at hm ⊢
      split at h
      · cases h
      · rename_i h3
        rw [if_neg h3] at hm ⊢
        split at hm
        · rename_i h4
          rw [if_pos h4] at h ⊢
          obtain ⟨e1, -⟩ := longL_zero h
          rw [e1] at hm ⊢
          have e : l ++ [⟨1, (ptL l).1, (ptL l).2.1, 0, 0⟩, s] = (l ++ [⟨1, (ptL l).1, (ptL l).2.1, 0, 0⟩]) ++ [s] := by simp
          rw [e] at hm ⊢
          exact ptL_snoc hm hk4
        · rename_i h4
          rw [if_neg h4] at h ⊢
          obtain ⟨e1, -⟩ := longL_zero h
          rw [e1] at hm ⊢
          exact ptL_snoc hm hk4
/-- What the reference lays: the path, and where it is. -/
theorem takeG_start (M : GM) (x y : Int) : takeG M (startL M.l x y) = if (startL M.l x y).2 = 0 then .ok { M with l := (startL M.l x y).1, x := x, y := y } else .bad (startL M.l x y).2 := by
  unfold takeG
  by_cases h : (startL M.l x y).2 = 0
  · rw [if_pos h, if_pos h, ptL_start h]; rfl
  · rw [if_neg h, if_neg h]
theorem takeG_on (M : GM) (s : Sg) (hk : s.kind = 3 ∨ (s.kind = 2 ∧ s.cx = 0 ∧ s.cy = 0)) : takeG M (onL M.l s) = if (onL M.l s).2 = 0 then .ok { M with l := (onL M.l s).1, x := s.x, y := s.y } else .bad (onL M.l s).2 := by
  unfold takeG
  by_cases h : (onL M.l s).2 = 0
  · rw [if_pos h, if_pos h, ptL_on hk h]; rfl
  · rw [if_neg h, if_neg h]
end Go.Proofs.YtdfkbbcoolgfiaaGreat

/- What a letter's program draws may be a path, plainly. -/
namespace Go.Proofs.YtdfkbbcoolgfiaaGreat

def KM (M : GM) : Prop := mayB M.l = true ∧ 0 ≤ M.wide ∧ M.wide ≤ 8191
def KG : GR → Prop
  | .bad _ => True
  | .ok M => KM M
theorem kg_take {M : GM} (h : KM M) {r : List Sg × Int} (hr : r.2 = 0 → mayB r.1 = true) : KG (takeG M r) := by
  unfold takeG
  split
  · rename_i h0; exact ⟨hr h0, h.2⟩
  · trivial
theorem kg_line {M : GM} (h : KM M) (a b : Int) : KG (lineG M a b) := kg_take h (on_may (.inr ⟨rfl, rfl, rfl⟩))
theorem kg_lines : ∀ (v : List Int) {M : GM}, KM M → KG (linesG M v)
  | [], M, h => by unfold linesG; exact h
  | [_], M, h => by unfold linesG; exact h
  | a :: b :: v, M, h => by
    unfold linesG
    have h1 := kg_line h a b
    split
    · trivial
    · rename_i M' he; rw [he] at h1; exact kg_lines v h1
theorem kg_width {M : GM} (h : KM M) (a : Int) : KG (widthG M a) := by
  unfold widthG
  split
  · trivial
  · split
    · trivial
    · rename_i h0; exact ⟨h.1, by simp only; omega⟩
theorem kg_op {M : GM} (h : KM M) (c : Nat) (v : List Int) : KG (opG c M v) := by
  unfold opG
  split
  · exact kg_width h _
  split
  · exact kg_take h start_may
  split
  · exact kg_lines v h
  split
  · exact kg_take h (on_may (.inl rfl))
  split
  · exact kg_line h _ _
  split
  · exact kg_line h _ _
  split
  · exact kg_take h shut_may
  · exact h
theorem kg_draw {M : GM} (h : KM M) (c : Nat) : KG (drawG c M) := by
  unfold drawG
  split
  · trivial
  · split
    · trivial
    · split
      · trivial
      · have h1 := kg_op (M := { M with wait := [] }) h c M.wait
        unfold drawnG
        split
        · trivial
        · rename_i M' he; rw [he] at h1; exact h1
theorem kg_then {r : GR} (h : KG r) {k : GM → GR} (hk : ∀ M, KM M → KG (k M)) : KG (thenG r k) := by
  unfold thenG
  cases r with
  | bad e => trivial
  | ok M =>
    simp only
    split
    · exact h
    · exact hk M h
theorem kg_push {M : GM} (h : KM M) (v : Int) {k : GM → GR} (hk : ∀ M, KM M → KG (k M)) : KG (pushG M v k) := by
  unfold pushG
  split
  · trivial
  · exact hk _ h
theorem kg_call {M : GM} (h : KM M) {np : Nat} {dp : Nat → GM → GR} (hd : ∀ k M, KM M → KG (dp k M)) : KG (callG np dp M) := by
  unfold callG
  split
  · trivial
  · split
    · trivial
    · exact hd _ _ h
theorem kg_runS {np : Nat} {dp : Nat → GM → GR} {top : Bool} (hd : ∀ k M, KM M → KG (dp k M)) : ∀ (n : Nat) (s : List Nat), s.length ≤ n → ∀ M, KM M → KG (runS np dp top s M)
  | _, [], _, M, _ => by unfold runS; trivial
  | n + 1, b :: s, hs, M, h => by
    simp only [List.length_cons] at hs
    by_cases hb : 32 ≤ b
    · rw [runS_num M hb]
      split
      · trivial
      · rename_i v k hv
        have hl := numG_len hv
        simp only [List.length_cons] at hl
        exact kg_push h v fun M' h' => kg_runS hd n _ (by simp only [List.length_drop, List.length_cons]; omega) M' h'
    · rw [runS_op M hb]
      split
      · trivial
      split
      · exact kg_then (kg_call (M := { M with ops := M.ops + 1 }) h hd) fun M' h' => kg_runS hd n s (by omega) M' h'
      split
      · split
        · trivial
        · exact h
      · exact kg_then (kg_draw (M := { M with ops := M.ops + 1 }) h b) fun M' h' => kg_runS hd n s (by omega) M' h'
theorem kg_runD (P : List (List Nat)) : ∀ (d : Nat) (top : Bool) (s : List Nat) (M : GM), KM M → KG (runD P d top s M)
  | 0, top, s, M, h => by unfold runD; exact kg_runS (dp := fun _ _ => .bad 5) (fun _ _ _ => trivial) s.length s (Nat.le_refl _) M h
  | d + 1, top, s, M, h => by unfold runD; exact kg_runS (fun k M' h' => kg_runD P d false _ M' h') s.length s (Nat.le_refl _) M h
/-- What is drawn may be a path, and so wide. -/
theorem run_ok (p : List Nat) : mayB (RunG p).1.1 = true ∧ 0 ≤ (RunG p).1.2 ∧ (RunG p).1.2 ≤ 8191 := by
  unfold RunG
  split
  · have h := kg_runD (splitG p).1.1 4 true (splitG p).1.2 startG ⟨rfl, by decide, by decide⟩
    unfold endG
    split
    · exact ⟨rfl, Int.le_refl 0, by show (0 : Int) ≤ 8191; decide⟩
    · rename_i M he; rw [he] at h; exact h
  · exact ⟨rfl, Int.le_refl 0, by show (0 : Int) ≤ 8191; decide⟩
end Go.Proofs.YtdfkbbcoolgfiaaGreat
