/- All that is plain: no program in sight. -/
import Derived.WalkKit
import Derived.WalkSpells
import Derived.WalkLawsBesides
import Derived.Lib.Hide
import Derived.Deep.QuietTactic
import Derived.BigQuiet
import Derived.Deep.Light
import Derived.Maps.AppendAt
import Derived.Deep.RegionLaw
import Derived.Laws.BytesArg
/- The plain side of the path layers: lists of pieces and edges, and what the program's functions compute on them. No program in sight. -/
namespace Go.Proofs.Ytbpgehaflbacmaa

/-- A piece of a path. -/
structure Sg where
  kind : Int
  x : Int
  y : Int
  cx : Int
  cy : Int
deriving DecidableEq, Inhabited

/-- An edge. -/
structure Ed where
  x0 : Int
  y0 : Int
  bent : Bool
  cx : Int
  cy : Int
  x1 : Int
  y1 : Int
deriving DecidableEq, Inhabited

/-- Is a number a coordinate? -/
def co (v : Int) : Bool := decide (-8191 ≤ v) && decide (v ≤ 8191)
/-- Are all? -/
def nearB (l : List Int) : Bool := l.all co

/-- May an edge be? -/
def edOK (e : Ed) : Bool := nearB [e.x0, e.y0, e.cx, e.cy, e.x1, e.y1] && (e.bent || (e.cx == 0 && e.cy == 0))

/-- May a piece be, behind one of some kind (0: none)? -/
def rightB (s : Sg) (last : Int) : Bool :=
  nearB [s.x, s.y, s.cx, s.cy] && (s.kind == 3 || (s.cx == 0 && s.cy == 0)) &&
    ((s.kind == 1 && last != 1) || (s.kind == 4 && last != 0 && last != 4 && s.x == 0 && s.y == 0) || ((s.kind == 2 || s.kind == 3) && last != 0 && last != 4))
/-- May pieces be, behind one of some kind? -/
def mayFrom : Int → List Sg → Bool
  | _, [] => true
  | last, s :: l => rightB s last && mayFrom s.kind l
/-- May pieces be? -/
def mayB (l : List Sg) : Bool := decide (l.length ≤ 300) && mayFrom 0 l
/-- The kind of the last piece; 0: there is none. -/
def lastK (l : List Sg) : Int := (l.getLast?.map Sg.kind).getD 0

end Go.Proofs.Ytbpgehaflbacmaa

/- Words for memory: a slice that reads as a list of cells, and how such a reading is carried from world to world. -/
namespace Go.Proofs.Ytbpgehaflbacmaa
open Go.RowKit

/-- The slice value '.slice A n c' reads as the cells xs, s of them an element. -/
def Sl (w : World) (s : Nat) (A : Option Addr) (n : Nat) (xs : List Value) : Prop :=
  xs.length = n * s ∧ (0 < n → ∃ b off : Nat, A = some ⟨b, off, none⟩ ∧ b < w.heap.size ∧ ∀ j u, xs[j]? = some u → w.cell? ⟨b, off + j, none⟩ = some u)

theorem bcell {W w1 : World} (hb : Below W.heap.size W w1) :
    (∀ b o, b < W.heap.size → w1.cell? ⟨b, o, none⟩ = W.cell? ⟨b, o, none⟩) ∧ (∀ b o, b < W.heap.size → w1.frozen? ⟨b, o, none⟩ = W.frozen? ⟨b, o, none⟩) :=
  ⟨fun b o h => hb.cell (p := ⟨b, o, none⟩) h, fun b o h => hb.frozen (p := ⟨b, o, none⟩) h⟩

section
variable {w w' : World} {s n : Nat} {A : Option Addr} {xs : List Value}
theorem Sl.nil_ : Sl w s A 0 [] := ⟨by simp, fun h => absurd h (by omega)⟩
theorem Sl.below (h : Sl w s A n xs) (hb : Below w.heap.size w w') : Sl w' s A n xs :=
  ⟨h.1, fun hn => by
    obtain ⟨b, off, e, hlt, hc⟩ := h.2 hn
    exact ⟨b, off, e, Nat.lt_of_lt_of_le hlt hb.size, fun j u hu => ((bcell hb).1 b _ hlt).trans (hc j u hu)⟩⟩
theorem Sl.alloc (h : Sl w s A n xs) (o : Obj) : Sl (w.alloc o) s A n xs := h.below ((Below.refl _ _).alloc (Nat.le_refl _) o)
theorem Sl.drew (h : Sl w s A n xs) : Sl w.drew s A n xs := h
theorem Sl.drewN (h : Sl w s A n xs) (k : Nat) : Sl (w.drewN k) s A n xs := h
end

/-- A list of numbers as cells. -/
def ints (zs : List Int) : List Value := zs.map (Value.int .i64)

/-- A piece's cells; pieces'. -/
def sgc (s : Sg) : List Value := [.int .i64 s.kind, .int .i64 s.x, .int .i64 s.y, .int .i64 s.cx, .int .i64 s.cy]
def sgs (l : List Sg) : List Value := l.flatMap sgc
/-- An edge's cells; edges'. -/
def edc (e : Ed) : List Value := [.int .i64 e.x0, .int .i64 e.y0, .bool e.bent, .int .i64 e.cx, .int .i64 e.cy, .int .i64 e.x1, .int .i64 e.y1]
def eds (l : List Ed) : List Value := l.flatMap edc

theorem len_flat {α : Type} (f : α → List Value) (s : Nat) (hs : ∀ x, (f x).length = s) (l : List α) : (l.flatMap f).length = l.length * s := by
  induction l with
  | nil => simp
  | cons a l ih => rw [List.flatMap_cons, List.length_append, ih, hs, List.length_cons, Nat.add_mul]; omega
theorem get_flat {α : Type} (f : α → List Value) (s : Nat) (hs : ∀ x, (f x).length = s) (l : List α) (k j : Nat) (hk : k < l.length) (hj : j < s) :
    (l.flatMap f)[k * s + j]? = (f l[k])[j]? := by
  induction l generalizing k with
  | nil => simp at hk
  | cons a l ih =>
    rw [List.flatMap_cons]
    cases k with
    | zero => rw [List.getElem?_append_left (by rw [hs]; omega)]; simp
    | succ k =>
      rw [List.getElem?_append_right (by rw [hs, Nat.succ_mul]; omega), hs]
      have : (k + 1) * s + j - s = k * s + j := by rw [Nat.succ_mul]; omega
      rw [this, ih k (by simpa using hk)]; simp
theorem sgs_len (l : List Sg) : (sgs l).length = l.length * 5 := len_flat sgc 5 (fun _ => rfl) l
theorem eds_len (l : List Ed) : (eds l).length = l.length * 7 := len_flat edc 7 (fun _ => rfl) l

/-- The cells of the k-th piece. -/
theorem Sl.sg {w : World} {A : Option Addr} {n : Nat} {l : List Sg} (h : Sl w 5 A n (sgs l)) (k : Nat) (hk : k < n) (hl : k < l.length) :
    ∃ b off : Nat, A = some ⟨b, off, none⟩ ∧ b < w.heap.size ∧ w.cell? ⟨b, off + k * 5, none⟩ = some (.int .i64 l[k].kind) ∧ w.cell? ⟨b, off + k * 5 + 1, none⟩ = some (.int .i64 l[k].x) ∧
      w.cell? ⟨b, off + k * 5 + 2, none⟩ = some (.int .i64 l[k].y) ∧ w.cell? ⟨b, off + k * 5 + 3, none⟩ = some (.int .i64 l[k].cx) ∧ w.cell? ⟨b, off + k * 5 + 4, none⟩ = some (.int .i64 l[k].cy) := by
  obtain ⟨b, off, e, hb, hc⟩ := h.2 (by omega)
  have g : ∀ j u, j < 5 → (sgc l[k])[j]? = some u → w.cell? ⟨b, off + k * 5 + j, none⟩ = some u := fun j u hj hu => by
    rw [Nat.add_assoc]; exact hc _ u (by rw [← hu]; exact get_flat sgc 5 (fun _ => rfl) l k j hl hj)
  exact ⟨b, off, e, hb, g 0 _ (by omega) rfl, g 1 _ (by omega) rfl, g 2 _ (by omega) rfl, g 3 _ (by omega) rfl, g 4 _ (by omega) rfl⟩
theorem Sl.sglen {w : World} {A : Option Addr} {n : Nat} {l : List Sg} (h : Sl w 5 A n (sgs l)) : l.length = n := by
  have := h.1; rw [sgs_len] at this; omega
theorem Sl.ed {w : World} {A : Option Addr} {n : Nat} {l : List Ed} (h : Sl w 7 A n (eds l)) (k : Nat) (hk : k < n) (hl : k < l.length) :
    ∃ b off : Nat, A = some ⟨b, off, none⟩ ∧ b < w.heap.size ∧ w.cell? ⟨b, off + k * 7, none⟩ = some (.int .i64 l[k].x0) ∧ w.cell? ⟨b, off + k * 7 + 1, none⟩ = some (.int .i64 l[k].y0) ∧
      w.cell? ⟨b, off + k * 7 + 2, none⟩ = some (.bool l[k].bent) ∧ w.cell? ⟨b, off + k * 7 + 3, none⟩ = some (.int .i64 l[k].cx) ∧ w.cell? ⟨b, off + k * 7 + 4, none⟩ = some (.int .i64 l[k].cy) ∧
      w.cell? ⟨b, off + k * 7 + 5, none⟩ = some (.int .i64 l[k].x1) ∧ w.cell? ⟨b, off + k * 7 + 6, none⟩ = some (.int .i64 l[k].y1) := by
  obtain ⟨b, off, e, hb, hc⟩ := h.2 (by omega)
  have g : ∀ j u, j < 7 → (edc l[k])[j]? = some u → w.cell? ⟨b, off + k * 7 + j, none⟩ = some u := fun j u hj hu => by
    rw [Nat.add_assoc]; exact hc _ u (by rw [← hu]; exact get_flat edc 7 (fun _ => rfl) l k j hl hj)
  exact ⟨b, off, e, hb, g 0 _ (by omega) rfl, g 1 _ (by omega) rfl, g 2 _ (by omega) rfl, g 3 _ (by omega) rfl, g 4 _ (by omega) rfl, g 5 _ (by omega) rfl, g 6 _ (by omega) rfl⟩
theorem Sl.edlen {w : World} {A : Option Addr} {n : Nat} {l : List Ed} (h : Sl w 7 A n (eds l)) : l.length = n := by
  have := h.1; rw [eds_len] at this; omega

/- The frame of a call that makes memory and changes none that was there. -/
section
variable {W w w' : World}
theorem bal (h : Below W.heap.size W w) (o : Obj) : Below W.heap.size W (w.alloc o) := h.alloc h.size o
theorem bset (h : Below W.heap.size W w) {p : Addr} (hp : W.heap.size ≤ p.block) (u : Value) : Below W.heap.size W (w.setCell p u) := h.setCell hp u
theorem btr (h : Below W.heap.size W w) (h' : Below w.heap.size w w') : Below W.heap.size W w' := h.trans (h'.mono h.size)
theorem bdrew (h : Below W.heap.size W w) : Below W.heap.size W w.drew := h.drew
theorem bdrewN (h : Below W.heap.size W w) (n : Nat) : Below W.heap.size W (w.drewN n) := ⟨h.os, h.tape, h.output, h.size, h.block⟩
end

/-- A new block of one-cell values, as a slice. -/
theorem sl_new {w : World} {t : TypeId} {n g : Nat} (vs : List Value) (hg : w.heap.size = g) (h : vs.length = n) : Sl (w.alloc (.cells vs.toArray t)) 1 (some ⟨g, 0, none⟩) n vs := by
  subst hg
  exact ⟨by omega, fun _ => ⟨_, _, rfl, by simp, fun j u hu => by
    rw [cell_of_row (w.alloc (.cells vs.toArray t)) w.heap.size (0 + j) vs.toArray t _ (heap_alloc_new w _)]; simpa using hu⟩⟩

/-- A new block of elements of s cells, as a slice. -/
theorem sl_newN {w : World} {t : TypeId} {n g s : Nat} (vs : List Value) (hg : w.heap.size = g) (h : vs.length = n * s) : Sl (w.alloc (.cells vs.toArray t)) s (some ⟨g, 0, none⟩) n vs := by
  subst hg
  exact ⟨h, fun _ => ⟨_, _, rfl, by simp, fun j u hu => by
    rw [cell_of_row (w.alloc (.cells vs.toArray t)) w.heap.size (0 + j) vs.toArray t _ (heap_alloc_new w _)]; simpa using hu⟩⟩

theorem new_cell {w : World} {t : TypeId} (cs : Array Value) (i : Nat) : (w.alloc (.cells cs t)).cell? ⟨w.heap.size, i, none⟩ = cs[i]? := cell_of_row _ _ _ cs t _ (heap_alloc_new w _)
theorem later_cell {W w : World} (hb : Below W.heap.size W w) {b o : Nat} (h : b < W.heap.size) : w.cell? ⟨b, o, none⟩ = W.cell? ⟨b, o, none⟩ := (bcell hb).1 b o h
theorem later_frozen {W w : World} (hb : Below W.heap.size W w) {b o : Nat} (h : b < W.heap.size) : w.frozen? ⟨b, o, none⟩ = W.frozen? ⟨b, o, none⟩ := (bcell hb).2 b o h

theorem quiet_left {P : Program} {f : FuncId} {args : Array Value} {w : World} {n : Nat} {v : Value} (h : Calls P f args (w.drewN n) fun e w' => e = .returned v ∧ w.drewN n = w') :
    Calls P f args (w.drewN n) fun e w'' => e = .returned v ∧ ∃ m, w'' = w.drewN m := h.mono fun _ _ ⟨he, hm⟩ => ⟨he, n, hm.symm⟩

theorem ret_bool {a b : Bool} (h : a = b) : Ending.returned (.bool a) = .returned (.bool b) := by rw [h]
theorem ret_int {k : IntKind} {a b : Int} (h : a = b) : Ending.returned (.int k a) = .returned (.int k b) := by rw [h]
theorem co_iff {z : Int} : co z = true ↔ -8191 ≤ z ∧ z ≤ 8191 := by simp [co]
theorem co_no {z : Int} (h : z < -8191 ∨ 8191 < z) : co z = false := by
  rw [Bool.eq_false_iff]; intro hc; rw [co_iff] at hc; omega

end Go.Proofs.Ytbpgehaflbacmaa

/- append onto a slice of the call's own, the source whatever slice: one law; and what an owned row gives. -/
namespace Go.Proofs.Ytbpgehaflbacmaa
open Go.RowKit

/-- t is a slice type of elements e, of so many cells and bytes. -/
def SlT (P : Program) (t e : TypeId) (size bytes : Nat) : Prop :=
  P.underlying t = some (.slice e) ∧ ∃ i z, P.info? e = some i ∧ i.zero = some z ∧ i.size = size ∧ i.bytes = bytes ∧ z.cells.size = size ∧ 0 < size ∧ bytes ≤ 1000

theorem slT_of {P : Program} {t e : TypeId} {size bytes : Nat} (hu : P.underlying t = some (.slice e))
    (h : (P.info? e).map (fun i => (i.zero.map (fun z => z.cells.size), i.size, i.bytes)) = some (some size, size, bytes)) (h0 : 0 < size) (hb : bytes ≤ 1000) : SlT P t e size bytes := by
  refine ⟨hu, ?_⟩
  cases hi : P.info? e with
  | none => simp [hi] at h
  | some i =>
    cases hz : i.zero with
    | none => simp [hi, hz] at h
    | some z =>
      simp [hi, hz] at h
      exact ⟨i, z, rfl, hz, h.2.1, h.2.2, h.1, h0, hb⟩

theorem own_sl {w : World} {base : Nat} {e : TypeId} {s n c : Nat} {A : Option Addr} {xs : List Value} (h : w.ownsRow base e s (.slice A n c) n xs) : Sl w s A n xs := by
  refine ⟨h.1, fun hn => ?_⟩
  rcases h.2 with ⟨_, h0⟩ | ⟨g, cap, cur, hv, _, hg, _, _, _, _⟩
  · omega
  · simp only [Value.slice.injEq] at hv
    obtain ⟨rfl, _, rfl⟩ := hv
    refine ⟨g, 0, rfl, (Array.getElem?_eq_some_iff.1 hg).1, fun j u hu => ?_⟩
    have := h.cells (g := g) rfl j u hu
    rw [Nat.zero_add]
    have hadd : (⟨g, 0, none⟩ : Addr).add j = ⟨g, j, none⟩ := by unfold Addr.add; split <;> simp_all
    rwa [hadd] at this
theorem own_cap {w : World} {base : Nat} {e : TypeId} {s n c : Nat} {A : Option Addr} {xs : List Value} (h : w.ownsRow base e s (.slice A n c) n xs) : n ≤ c := by
  rcases h.2 with ⟨hv, h0⟩ | ⟨g, cap, cur, hv, _, hg, hn, _, _, _⟩
  · omega
  · simp only [Value.slice.injEq] at hv
    obtain ⟨_, _, rfl⟩ := hv
    exact hn
/-- An owned value is a slice of so many. -/
theorem own_form {w : World} {base : Nat} {e : TypeId} {s n : Nat} {v : Value} {xs : List Value} (h : w.ownsRow base e s v n xs) : ∃ A c, v = .slice A n c := by
  rcases h.2 with ⟨rfl, rfl⟩ | ⟨g, cap, cur, rfl, _⟩
  · exact ⟨none, 0, rfl⟩
  · exact ⟨_, _, rfl⟩
theorem own_nil {w : World} {base : Nat} {e : TypeId} {s : Nat} : w.ownsRow base e s (.slice none 0 0) 0 [] := World.ownsRow_nil _ _ _ _
/-- What is owned stays so while others make memory. -/
theorem own_below {w w' : World} {base : Nat} {e : TypeId} {s n : Nat} {v : Value} {xs : List Value} (h : w.ownsRow base e s v n xs) (hb : Below w.heap.size w w') : w'.ownsRow base e s v n xs :=
  h.kept (row := none) ⟨hb.os, hb.tape, hb.output, hb.size, fun k hk _ => hb.block k hk⟩ (by cases v.ownBlock <;> simp)
theorem own_mono {w : World} {base base' : Nat} {e : TypeId} {s n : Nat} {v : Value} {xs : List Value} (h : w.ownsRow base e s v n xs) (hb : base' ≤ base) : w.ownsRow base' e s v n xs := by
  refine ⟨h.1, ?_⟩
  rcases h.2 with h0 | ⟨g, cap, cur, hv, hbg, rest⟩
  · exact .inl h0
  · exact .inr ⟨g, cap, cur, hv, Nat.le_trans hb hbg, rest⟩
/-- What was owned, in a world that has written that row's own block alone, is told by Below. -/
theorem grown_below {W w w' : World} {A : Option Addr} {n c : Nat} {e : TypeId} {s : Nat} {xs : List Value} (hb : Below W.heap.size W w) (hg : w.grownBy w' (Value.ownBlock (.slice A n c)))
    (hown : w.ownsRow W.heap.size e s (.slice A n c) n xs) : Below W.heap.size W w' :=
  hb.grown hg hb.size fun k hk => (hown.lt k hk).1

/-- A new block of so many elements is owned. -/
theorem own_new {w : World} {t : TypeId} {n g s base : Nat} (vs : List Value) (hg : w.heap.size = g) (h : vs.length = n * s) (hb : base ≤ g) (hn : n ≤ 1000000) :
    (w.alloc (.cells vs.toArray t)).ownsRow base t s (.slice (some ⟨g, 0, none⟩) n n) n vs := by
  subst hg
  have := World.ownsRow_lit (base := base) (e := t) (size := s) w vs.toArray n hb (by simp only [maxLen]; omega) (by simpa using h)
  simpa using this

theorem oneCell_ints (zs : List Int) : ∀ u ∈ ints zs, u.oneCell' = true := by
  intro u hu; simp only [ints, List.mem_map] at hu; obtain ⟨z, _, rfl⟩ := hu; rfl
theorem oneCell_sgc (s : Sg) : ∀ u ∈ sgc s, u.oneCell' = true := by
  intro u hu; simp only [sgc, List.mem_cons, List.not_mem_nil, or_false] at hu; rcases hu with rfl | rfl | rfl | rfl | rfl <;> rfl
theorem oneCell_edc (s : Ed) : ∀ u ∈ edc s, u.oneCell' = true := by
  intro u hu; simp only [edc, List.mem_cons, List.not_mem_nil, or_false] at hu; rcases hu with rfl | rfl | rfl | rfl | rfl | rfl | rfl <;> rfl
theorem oneCell_flat {α : Type} (f : α → List Value) (hf : ∀ a, ∀ u ∈ f a, u.oneCell' = true) (l : List α) : ∀ u ∈ l.flatMap f, u.oneCell' = true := by
  intro u hu; rw [List.mem_flatMap] at hu; obtain ⟨a, _, ha⟩ := hu; exact hf a u ha
theorem oneCell_sgs (l : List Sg) : ∀ u ∈ sgs l, u.oneCell' = true := oneCell_flat sgc oneCell_sgc l
theorem oneCell_eds (l : List Ed) : ∀ u ∈ eds l, u.oneCell' = true := oneCell_flat edc oneCell_edc l
theorem sgs_app (l m : List Sg) : sgs (l ++ m) = sgs l ++ sgs m := by simp [sgs]
theorem eds_app (l m : List Ed) : eds (l ++ m) = eds l ++ eds m := by simp [eds]
theorem sgs_one (s : Sg) : sgs [s] = sgc s := by simp [sgs]
theorem eds_one (s : Ed) : eds [s] = edc s := by simp [eds]

section
variable {P : Program}
theorem run_app (w : World) {t ty e : TypeId} {base size bytes : Nat} (T : SlT P t e size bytes) {A : Option Addr} {n c : Nat} {xs : List Value} (hown : w.ownsRow base e size (.slice A n c) n xs)
    {X : Option Addr} {m cx : Nat} {news : List Value} (hr : Sl w size X m news) (h1 : ∀ u ∈ news, u.oneCell' = true) (hsm : n + m ≤ 1000000) (hbase : base ≤ w.heap.size) :
    ∃ A' c' w', (Builtin.append_ #[t, t] ty #[.slice A n c, .slice X m cx]).run P w = .ok (.slice A' (n + m) c') w' ∧ w'.ownsRow base e size (.slice A' (n + m) c') (n + m) (xs ++ news) ∧
      w.grownBy w' (Value.ownBlock (.slice A n c)) ∧ ((Value.slice A' (n + m) c').ownBlock = (Value.slice A n c).ownBlock ∨ (Value.slice A' (n + m) c').ownBlock = some w.heap.size) := by
  obtain ⟨ht, i, z, hi, hz, hsize, hby, hzs, hsz, hbb⟩ := T
  rcases X with _ | ad
  · have hm : m = 0 := by
      rcases Nat.eq_zero_or_pos m with h0 | h0
      · exact h0
      · obtain ⟨b, off, h, _⟩ := hr.2 h0; cases h
    subst hm
    have hn : news = [] := List.eq_nil_of_length_eq_zero (by simpa using hr.1)
    subst hn
    refine ⟨A, c, w, ?_, by simpa using hown, ⟨rfl, rfl, rfl, Nat.le_refl _, fun _ _ _ => rfl⟩, .inl rfl⟩
    have hnc := own_cap hown
    rcases hown.2 with ⟨hv, h0⟩ | ⟨g, cap, cur, hv, _⟩
    · simp only [Value.slice.injEq] at hv
      obtain ⟨rfl, rfl, rfl⟩ := hv
      simp [Builtin.append_, run_underlying ht, sizeOf, typeInfo, hi, Builtin.lenOf, Builtin.firstCells]
    · simp only [Value.slice.injEq] at hv
      obtain ⟨rfl, _, rfl⟩ := hv
      simp [Builtin.append_, run_underlying ht, sizeOf, typeInfo, hi, Builtin.lenOf, Builtin.firstCells, hnc, storeCells]
  · have hcells : ∀ j u, news[j]? = some u → w.cell? (ad.add j) = some u := by
      intro j u hu
      rcases Nat.eq_zero_or_pos m with h0 | h0
      · subst h0
        have hn : news = [] := List.eq_nil_of_length_eq_zero (by simpa using hr.1)
        subst hn
        simp at hu
      · obtain ⟨b, off, h, _, hc⟩ := hr.2 h0
        injection h with h
        subst h
        have hadd : (⟨b, off, none⟩ : Addr).add j = ⟨b, off + j, none⟩ := by unfold Addr.add; split <;> simp_all
        rw [hadd]
        exact hc j u hu
    have hb2 : (n + m) * bytes ≤ 1000000 * 1000 := Nat.mul_le_mul hsm hbb
    obtain ⟨v', w', hrun, h2, h3, _, h5⟩ := run_append_own_at (P := P) w base t ty e i z size bytes ht hi hz hsize hby hzs hsz (.slice A n c) n xs hown ad m cx news hr.1 hcells h1 (by simp only [maxLen]; omega) (by omega) hbase
    obtain ⟨A', c', rfl⟩ := own_form h2
    exact ⟨A', c', w', hrun, h2, h3, h5⟩

theorem wp_app {o : Oper} {a : Act} {w : World} {K : Act → World → Prop} {Q : Exit → Act → World → Prop} (s x : Operand) (t : TypeId)
    (ho : o.op = .call { callee := .builtin .append, args := #[s, x], argTypes := #[t, t] }) (base : Nat) {e : TypeId} {size bytes : Nat} (T : SlT P t e size bytes)
    {A : Option Addr} {n c : Nat} {xs : List Value} (hs : a.eval s = .slice A n c) (hown : w.ownsRow base e size (.slice A n c) n xs)
    {X : Option Addr} {m cx : Nat} (news : List Value) (hx : a.eval x = .slice X m cx) (hr : Sl w size X m news) (h1 : ∀ u ∈ news, u.oneCell' = true) (hsm : n + m ≤ 1000000) (hbase : base ≤ w.heap.size)
    (h : ∀ A' c' w', w'.ownsRow base e size (.slice A' (n + m) c') (n + m) (xs ++ news) → w.grownBy w' (Value.ownBlock (.slice A n c)) →
      ((Value.slice A' (n + m) c').ownBlock = (Value.slice A n c).ownBlock ∨ (Value.slice A' (n + m) c').ownBlock = some w.heap.size) → K (a.put o.dst (.slice A' (n + m) c')) w') : o.wp P a w K Q := by
  obtain ⟨A', c', w', hrun, h2, h3, h4⟩ := run_app (P := P) (ty := o.type) w T hown (cx := cx) hr h1 hsm hbase
  unfold Oper.wp execOp
  simp only [ho, resolve, invoke, builtin, Sem.run_bind, Sem.run_pure, Result.andThen_ok, List.map_toArray, List.map_cons, List.map_nil, hs, hx, hrun]
  exact h A' c' w' h2 h3 h4

/-- At the operation, in a walk. -/
theorem wpList_app {ops : Array Oper} {rest : List Oper} {o : Oper} {a : Act} {w : World} {Q : Exit → Act → World → Prop} (hgd : o.guard = none) (s x : Operand) (t : TypeId)
    (ho : o.op = .call { callee := .builtin .append, args := #[s, x], argTypes := #[t, t] }) (base : Nat) {e : TypeId} {size bytes : Nat} (T : SlT P t e size bytes)
    {A : Option Addr} {n c : Nat} {xs : List Value} (hs : a.eval s = .slice A n c) (hown : w.ownsRow base e size (.slice A n c) n xs)
    {X : Option Addr} {m cx : Nat} (news : List Value) (hx : a.eval x = .slice X m cx) (hr : Sl w size X m news) (h1 : ∀ u ∈ news, u.oneCell' = true) (hsm : n + m ≤ 1000000) (hbase : base ≤ w.heap.size)
    (h : ∀ A' c' w', w'.ownsRow base e size (.slice A' (n + m) c') (n + m) (xs ++ news) → w.grownBy w' (Value.ownBlock (.slice A n c)) →
      ((Value.slice A' (n + m) c').ownBlock = (Value.slice A n c).ownBlock ∨ (Value.slice A' (n + m) c').ownBlock = some w.heap.size) → wpList P ops Q rest (a.put o.dst (.slice A' (n + m) c')) w') :
    wpList P ops Q (o :: rest) a w :=
  wpList_plain hgd fun _ hK => wp_app s x t ho base T hs hown news hx hr h1 hsm hbase fun A' c' w' h2 h3 h4 => hK _ _ (h A' c' w' h2 h3 h4)

/-- At a step of a region that draws its order. -/
theorem step_app {ops : Array Oper} {o : Oper} {a : Act} {w : World} {K : Act → World → Prop} {Q : Exit → Act → World → Prop} {E : Prop} (hgd : o.guard = none) (s x : Operand) (t : TypeId)
    (ho : o.op = .call { callee := .builtin .append, args := #[s, x], argTypes := #[t, t] }) (base : Nat) {e : TypeId} {size bytes : Nat} (T : SlT P t e size bytes)
    {A : Option Addr} {n c : Nat} {xs : List Value} (hs : a.eval s = .slice A n c) (hown : w.ownsRow base e size (.slice A n c) n xs)
    {X : Option Addr} {m cx : Nat} (news : List Value) (hx : a.eval x = .slice X m cx) (hr : Sl w size X m news) (h1 : ∀ u ∈ news, u.oneCell' = true) (hsm : n + m ≤ 1000000) (hbase : base ≤ w.heap.size)
    (h : ∀ A' c' w', w'.ownsRow base e size (.slice A' (n + m) c') (n + m) (xs ++ news) → w.grownBy w' (Value.ownBlock (.slice A n c)) →
      ((Value.slice A' (n + m) c').ownBlock = (Value.slice A n c).ownBlock ∨ (Value.slice A' (n + m) c').ownBlock = some w.heap.size) → K (a.put o.dst (.slice A' (n + m) c')) w') :
    if Region.wanted o (yielded ops a.tmps) = true then Oper.wp P o a w K Q else E := by
  have hw : Region.wanted o (yielded ops a.tmps) = true := by simp [Region.wanted, hgd]
  rw [if_pos hw]
  exact wp_app s x t ho base T hs hown news hx hr h1 hsm hbase h
end

end Go.Proofs.Ytbpgehaflbacmaa

/- The plain side of layer 27: into how many lines, which. -/
namespace Go.Proofs.Ytbpgehaflbacmaa

/-- Any number as one from 0 to n - 1. -/
def placeI (v n : Int) : Int := v % n
def sizeI (v : Int) : Int := max v (-v)
/-- The power of two whose square times 4 is at least so much. -/
def pw (far : Int) : Int :=
  if far ≤ 4 then 1 else if far ≤ 16 then 2 else if far ≤ 64 then 4 else if far ≤ 256 then 8 else if far ≤ 1024 then 16 else if far ≤ 4096 then 32 else if far ≤ 16384 then 64 else 128
def farI (x0 y0 cx cy x1 y1 : Int) : Int := max (sizeI (x0 - 2 * cx + x1)) (sizeI (y0 - 2 * cy + y1))
/-- Into how many straight pieces. -/
def cntI (e : Ed) : Int := if edOK e = false then 0 else if e.bent = false then 1 else pw (farI e.x0 e.y0 e.cx e.cy e.x1 e.y1)
/-- v by m (above 0), to the nearest, of two as near the even one. -/
def rnd (v m : Int) : Int := if m < 2 * (v % m) ∨ (2 * (v % m) = m ∧ (v / m) % 2 = 1) then v / m + 1 else v / m
/-- One coordinate of the k-th place of n. -/
def plc1 (a c b k n : Int) : Int := rnd (a * (n - k) * (n - k) + 2 * c * k * (n - k) + b * k * k) (n * n)
/-- The k-th place of n: the first one is the beginning itself. -/
def plcX (e : Ed) (n : Int) (k : Nat) : Int := if k = 0 then e.x0 else plc1 e.x0 e.cx e.x1 k n
def plcY (e : Ed) (n : Int) (k : Nat) : Int := if k = 0 then e.y0 else plc1 e.y0 e.cy e.y1 k n
/-- The first so many of the n lines. -/
def lnsTo (e : Ed) (n : Int) (k : Nat) : List Ed := (List.range k).map fun i => ⟨plcX e n i, plcY e n i, false, 0, 0, plcX e n (i + 1), plcY e n (i + 1)⟩
/-- The straight ones. -/
def lns (e : Ed) : List Ed := if edOK e = false then [] else if e.bent = false then [e] else lnsTo e (cntI e) (cntI e).toNat

theorem pw_cases (far : Int) : pw far = 1 ∨ pw far = 2 ∨ pw far = 4 ∨ pw far = 8 ∨ pw far = 16 ∨ pw far = 32 ∨ pw far = 64 ∨ pw far = 128 := by
  unfold pw; repeat (first | (split; · simp) | simp)
theorem pw_bd (far : Int) : 1 ≤ pw far ∧ pw far ≤ 128 := by rcases pw_cases far with h | h | h | h | h | h | h | h <;> omega

theorem edOK_iff {e : Ed} : edOK e = true ↔ (-8191 ≤ e.x0 ∧ e.x0 ≤ 8191) ∧ (-8191 ≤ e.y0 ∧ e.y0 ≤ 8191) ∧ (-8191 ≤ e.cx ∧ e.cx ≤ 8191) ∧ (-8191 ≤ e.cy ∧ e.cy ≤ 8191) ∧ (-8191 ≤ e.x1 ∧ e.x1 ≤ 8191) ∧ (-8191 ≤ e.y1 ∧ e.y1 ≤ 8191) ∧ (e.bent = true ∨ (e.cx = 0 ∧ e.cy = 0)) := by
  simp [edOK, nearB, co, and_assoc]

theorem edOK_mk {x0 y0 cx cy x1 y1 : Int} {bent : Bool} (h0 : -8191 ≤ x0 ∧ x0 ≤ 8191) (h1 : -8191 ≤ y0 ∧ y0 ≤ 8191) (h2 : -8191 ≤ cx ∧ cx ≤ 8191) (h3 : -8191 ≤ cy ∧ cy ≤ 8191) (h4 : -8191 ≤ x1 ∧ x1 ≤ 8191) (h5 : -8191 ≤ y1 ∧ y1 ≤ 8191)
    (h6 : bent = true ∨ (cx = 0 ∧ cy = 0)) : edOK ⟨x0, y0, bent, cx, cy, x1, y1⟩ = true := by
  rw [edOK_iff]; exact ⟨h0, h1, h2, h3, h4, h5, h6⟩

theorem farI_le {x0 y0 cx cy x1 y1 : Int} (h : edOK ⟨x0, y0, true, cx, cy, x1, y1⟩ = true) : 0 ≤ farI x0 y0 cx cy x1 y1 ∧ farI x0 y0 cx cy x1 y1 ≤ 32764 := by
  rw [edOK_iff] at h; simp only at h
  unfold farI sizeI
  omega

/-- How a doubling number comes to the power. -/
theorem pw_step {far n : Int} (hn : n = 1 ∨ n = 2 ∨ n = 4 ∨ n = 8 ∨ n = 16 ∨ n = 32 ∨ n = 64 ∨ n = 128) (hf : far ≤ 32764) (hle : n ≤ pw far) :
    (4 * n * n < far → (n * 2 = 1 ∨ n * 2 = 2 ∨ n * 2 = 4 ∨ n * 2 = 8 ∨ n * 2 = 16 ∨ n * 2 = 32 ∨ n * 2 = 64 ∨ n * 2 = 128) ∧ n * 2 ≤ pw far) ∧ (¬ 4 * n * n < far → n = pw far) := by
  unfold pw at *
  rcases hn with rfl | rfl | rfl | rfl | rfl | rfl | rfl | rfl <;> (constructor <;> intro h <;> (repeat' split) <;> omega)

theorem mul_bd {a b A B : Int} (ha : -A ≤ a ∧ a ≤ A) (hb : 0 ≤ b ∧ b ≤ B) : -(A * B) ≤ a * b ∧ a * b ≤ A * B := by
  have h0 : 0 ≤ A := by omega
  have h1 : A * b ≤ A * B := Int.mul_le_mul_of_nonneg_left hb.2 h0
  have h2 : a * b ≤ A * b := Int.mul_le_mul_of_nonneg_right ha.2 hb.1
  have h3 : (-A) * b ≤ a * b := Int.mul_le_mul_of_nonneg_right ha.1 hb.1
  rw [Int.neg_mul] at h3
  omega
theorem bd3 (a j k : Int) (ha : -8191 ≤ a ∧ a ≤ 8191) (hj : 0 ≤ j ∧ j ≤ 128) (hk : 0 ≤ k ∧ k ≤ 128) :
    (-1048448 ≤ a * j ∧ a * j ≤ 1048448) ∧ (-134201344 ≤ a * j * k ∧ a * j * k ≤ 134201344) := by
  have h1 := mul_bd (A := 8191) (B := 128) ha hj
  have h2 := mul_bd (A := 1048448) (B := 128) (a := a * j) (by omega) hk
  omega

theorem rnd_bd (v m : Int) (hm : 0 < m) : 2 * (m * rnd v m) ≤ 2 * v + m ∧ 2 * v - m ≤ 2 * (m * rnd v m) := by
  have h1 := Int.mul_ediv_add_emod v m
  have h2 := Int.emod_nonneg v (by omega : m ≠ 0)
  have h3 := Int.emod_lt_of_pos v hm
  unfold rnd
  split
  · rename_i h
    rw [Int.mul_add, Int.mul_one]
    rcases h with h | ⟨h, _⟩ <;> omega
  · rename_i h
    have : ¬ m < 2 * (v % m) := fun hh => h (.inl hh)
    omega
/-- What is between two whole numbers is so when rounded. -/
theorem rnd_between (v m a b : Int) (hm : 0 < m) (ha : a * m ≤ v) (hb : v ≤ b * m) : a ≤ rnd v m ∧ rnd v m ≤ b := by
  have h1 := rnd_bd v m hm
  constructor
  · apply Decidable.byContradiction; intro h
    have : m * rnd v m ≤ m * (a - 1) := Int.mul_le_mul_of_nonneg_left (by omega) (by omega)
    rw [Int.mul_sub, Int.mul_one, Int.mul_comm m a] at this; omega
  · apply Decidable.byContradiction; intro h
    have : m * (b + 1) ≤ m * rnd v m := Int.mul_le_mul_of_nonneg_left (by omega) (by omega)
    rw [Int.mul_add, Int.mul_one, Int.mul_comm m b] at this; omega
theorem rnd_exact (a m : Int) (hm : 0 < m) : rnd (a * m) m = a := by
  have := rnd_between (a * m) m a a hm (Int.le_refl _) (Int.le_refl _); omega

theorem cntI_yes {e : Ed} (h : edOK e = true) (hb : e.bent = true) : cntI e = pw (farI e.x0 e.y0 e.cx e.cy e.x1 e.y1) := by simp [cntI, h, hb]
theorem cntI_flat {e : Ed} (h : edOK e = true) (hb : e.bent = false) : cntI e = 1 := by simp [cntI, h, hb]
theorem cntI_no {e : Ed} (h : edOK e = false) : cntI e = 0 := by simp [cntI, h]
theorem cntI_bd {e : Ed} (h : edOK e = true) (hb : e.bent = true) : 1 ≤ cntI e ∧ cntI e ≤ 128 := by rw [cntI_yes h hb]; exact pw_bd _
theorem lns_yes {e : Ed} (h : edOK e = true) (hb : e.bent = true) : lns e = lnsTo e (cntI e) (cntI e).toNat := by simp [lns, h, hb]
theorem lns_flat {e : Ed} (h : edOK e = true) (hb : e.bent = false) : lns e = [e] := by simp [lns, h, hb]
theorem lns_no {e : Ed} (h : edOK e = false) : lns e = [] := by simp [lns, h]
theorem lns_len {e : Ed} : (lns e).length = (cntI e).toNat := by
  cases h : edOK e
  · rw [lns_no h, cntI_no h]; rfl
  · cases hb : e.bent
    · rw [lns_flat h hb, cntI_flat h hb]; rfl
    · rw [lns_yes h hb]; simp [lnsTo]
theorem lnsTo_snoc (e : Ed) (n : Int) (k : Nat) : lnsTo e n (k + 1) = lnsTo e n k ++ [⟨plcX e n k, plcY e n k, false, 0, 0, plcX e n (k + 1), plcY e n (k + 1)⟩] := by
  simp [lnsTo, List.range_succ]
theorem lnsTo_len (e : Ed) (n : Int) (k : Nat) : (lnsTo e n k).length = k := by simp [lnsTo]

end Go.Proofs.Ytbpgehaflbacmaa

/- The plain side of flattening a path. -/
namespace Go.Proofs.Ytbpgehaflbacmaa

/-- A straight edge's piece. -/
def lnSg (e : Ed) : Sg := ⟨2, e.x1, e.y1, 0, 0⟩
/-- What becomes of one piece, behind a point. -/
def flatSeg (x y : Int) (s : Sg) : List Sg := if s.kind = 3 then (lns ⟨x, y, true, s.cx, s.cy, s.x, s.y⟩).map lnSg else [s]
def flatFrom : Int → Int → List Sg → List Sg
  | _, _, [] => []
  | x, y, s :: l => flatSeg x y s ++ flatFrom s.x s.y l
def flatL (l : List Sg) : List Sg := flatFrom 0 0 l
def lastX (l : List Sg) : Int := (l.getLast?.map Sg.x).getD 0
def lastY (l : List Sg) : Int := (l.getLast?.map Sg.y).getD 0
/-- The flat path, or the error. -/
def flatE (l : List Sg) : List Sg × Int := if mayB l = false then ([], 1) else if 300 < (flatL l).length then ([], 5) else (flatL l, 0)

theorem flatFrom_snoc (x y : Int) (l : List Sg) (s : Sg) : flatFrom x y (l ++ [s]) = flatFrom x y l ++ flatSeg ((l.getLast?.map Sg.x).getD x) ((l.getLast?.map Sg.y).getD y) s := by
  induction l generalizing x y with
  | nil => simp [flatFrom]
  | cons a l ih =>
    rw [List.cons_append, flatFrom, flatFrom, ih, List.append_assoc]
    congr 2
    cases l with
    | nil => simp
    | cons b l =>
      have h : ∃ z, (b :: l).getLast? = some z := ⟨_, List.getLast?_eq_some_getLast (by simp)⟩
      obtain ⟨z, hz⟩ := h
      simp only [List.getLast?_cons_cons, hz, Option.map_some, Option.getD_some]
theorem flatL_take (l : List Sg) (k : Nat) (h : k < l.length) : flatL (l.take (k + 1)) = flatL (l.take k) ++ flatSeg (lastX (l.take k)) (lastY (l.take k)) l[k] := by
  rw [List.take_succ_eq_append_getElem h]; exact flatFrom_snoc 0 0 _ _
theorem flatFrom_app (a b : List Sg) (x y : Int) : ∃ c, flatFrom x y (a ++ b) = flatFrom x y a ++ c := by
  induction a generalizing x y with
  | nil => exact ⟨_, rfl⟩
  | cons s a ih =>
    obtain ⟨c, hc⟩ := ih s.x s.y
    exact ⟨c, by rw [List.cons_append, flatFrom, flatFrom, hc, List.append_assoc]⟩
theorem flatL_app (a b : List Sg) : ∃ c, flatL (a ++ b) = flatL a ++ c := flatFrom_app a b 0 0
theorem flatL_take_le (l : List Sg) (k : Nat) : (flatL (l.take k)).length ≤ (flatL l).length := by
  obtain ⟨c, hc⟩ := flatL_app (l.take k) (l.drop k)
  rw [List.take_append_drop] at hc
  rw [hc]; simp
theorem lastX_take (l : List Sg) (k : Nat) (h : k < l.length) : lastX (l.take (k + 1)) = l[k].x := by
  unfold lastX; rw [List.take_succ_eq_append_getElem h, List.getLast?_append]; simp
theorem lastY_take (l : List Sg) (k : Nat) (h : k < l.length) : lastY (l.take (k + 1)) = l[k].y := by
  unfold lastY; rw [List.take_succ_eq_append_getElem h, List.getLast?_append]; simp
theorem lns_le (e : Ed) : (lns e).length ≤ 128 := by
  rw [lns_len]
  cases h : edOK e
  · rw [cntI_no h]; decide
  · cases hb : e.bent
    · rw [cntI_flat h hb]; decide
    · have := cntI_bd h hb; omega
theorem flatSeg_le (x y : Int) (s : Sg) : (flatSeg x y s).length ≤ 128 := by
  unfold flatSeg; split
  · rw [List.length_map]; exact lns_le _
  · simp
theorem flatL_bd (l : List Sg) : (flatL l).length ≤ 128 * l.length := by
  have : ∀ x y, (flatFrom x y l).length ≤ 128 * l.length := by
    induction l with
    | nil => intro x y; simp [flatFrom]
    | cons s l ih =>
      intro x y
      rw [flatFrom, List.length_append, List.length_cons]
      have := flatSeg_le x y s
      have := ih s.x s.y
      omega
  exact this 0 0
theorem lns_straight (e : Ed) (hb : e.bent = true) (i : Nat) (hi : i < (lns e).length) : (lns e)[i].bent = false := by
  cases h : edOK e
  · have := lns_no h; simp [this] at hi
  · have hl := lns_yes h hb
    simp only [hl]
    simp [lnsTo]

theorem flatE_over {l : List Sg} {k : Nat} (hok : mayB l = true) (h : 300 < (flatL (l.take k)).length) : flatE l = ([], 5) := by
  have := flatL_take_le l k
  simp [flatE, hok]; omega
theorem flatE_le (l : List Sg) : (flatE l).1.length ≤ 300 := by
  unfold flatE; split
  · simp
  · split
    · simp
    · simp only; omega
theorem flatE_all {l : List Sg} (hok : mayB l = true) (h : (flatL l).length ≤ 300) : flatE l = (flatL l, 0) := by
  simp [flatE, hok]; omega
theorem flatSeg_bow {x y : Int} {s : Sg} (h : s.kind = 3) : flatSeg x y s = (lns ⟨x, y, true, s.cx, s.cy, s.x, s.y⟩).map lnSg := by simp [flatSeg, h]
theorem map_take_snoc {α β : Type} (f : α → β) (l : List α) (j : Nat) (h : j < l.length) : (l.take (j + 1)).map f = (l.take j).map f ++ [f l[j]] := by
  rw [List.take_succ_eq_append_getElem h, List.map_append]; rfl

end Go.Proofs.Ytbpgehaflbacmaa

/- The plain side of the reference's pieces. -/
namespace Go.Proofs.Ytbpgehaflbacmaa

/-- May one piece be, by itself? -/
def pieceB (s : Sg) : Bool :=
  ((s.kind == 1 || s.kind == 2) && (co s.x && co s.y && s.cx == 0 && s.cy == 0)) || (s.kind == 3 && (co s.x && co s.y && (co s.cx && co s.cy))) || (s.kind == 4 && (s.x == 0 && s.y == 0 && s.cx == 0 && s.cy == 0))

theorem rightB_iff {s : Sg} {last : Int} : rightB s last = true ↔ pieceB s = true ∧ ((s.kind = 1 ∧ last ≠ 1) ∨ (s.kind ≠ 1 ∧ last ≠ 0 ∧ last ≠ 4)) := by
  have h0 : co 0 = true := by decide
  unfold rightB pieceB nearB
  by_cases h1 : s.kind = 1
  · simp [h1, and_assoc]
    intro _ _
    constructor
    · rintro ⟨c, d, e, f, g⟩; exact ⟨e, f, g⟩
    · rintro ⟨e, f, g⟩; rw [e, f]; exact ⟨h0, h0, rfl, rfl, g⟩
  · by_cases h2 : s.kind = 2
    · simp [h2, and_assoc]
      intro _ _
      constructor
      · rintro ⟨c, d, e, f, g⟩; exact ⟨e, f, g⟩
      · rintro ⟨e, f, g⟩; rw [e, f]; exact ⟨h0, h0, rfl, rfl, g⟩
    · by_cases h3 : s.kind = 3
      · simp [h3, and_assoc]
      · by_cases h4 : s.kind = 4
        · simp [h4, and_assoc]
          constructor
          · rintro ⟨a, b, c, d, e, f, g, h, i, j⟩; exact ⟨i, j, e, f, g, h⟩
          · rintro ⟨i, j, e, f, g, h⟩; rw [e, f, i, j]; exact ⟨h0, h0, h0, h0, rfl, rfl, g, h, rfl, rfl⟩
        · simp [h1, h2, h3, h4]

theorem pieceB_kind {s : Sg} (h : pieceB s = true) : 1 ≤ s.kind ∧ s.kind ≤ 4 := by
  unfold pieceB at h
  simp at h
  omega

end Go.Proofs.Ytbpgehaflbacmaa

/- The plain side of contours. -/
namespace Go.Proofs.Ytbpgehaflbacmaa

/-- A contour: from x, y on. -/
structure Ct where
  x : Int
  y : Int
  es : List Ed
  shut : Bool
deriving DecidableEq, Inhabited

/-- The last one turned. -/
def modLast {α : Type} (f : α → α) : List α → List α
  | [] => []
  | [c] => [f c]
  | c :: d :: l => c :: modLast f (d :: l)
/-- What a piece does: the contours so far, the place. -/
def ctStep (st : List Ct × Int × Int) (s : Sg) : List Ct × Int × Int :=
  if s.kind = 1 then (st.1 ++ [⟨s.x, s.y, [], false⟩], s.x, s.y)
  else if s.kind = 4 then (modLast (fun c => { c with shut := true }) st.1, st.2.1, st.2.2)
  else (modLast (fun c => { c with es := c.es ++ [⟨st.2.1, st.2.2, s.kind == 3, s.cx, s.cy, s.x, s.y⟩] }) st.1, s.x, s.y)
def ctTo (l : List Sg) : List Ct × Int × Int := l.foldl ctStep ([], 0, 0)
/-- The contours of a path. -/
def ctsL (l : List Sg) : List Ct := if mayB l = false then [] else (ctTo l).1

theorem modLast_snoc {α : Type} (f : α → α) (l : List α) (c : α) : modLast f (l ++ [c]) = l ++ [f c] := by
  induction l with
  | nil => rfl
  | cons a l ih =>
    cases l with
    | nil => rfl
    | cons b l => rw [List.cons_append, List.cons_append]; simp only [modLast]; rw [← List.cons_append, ih]; rfl
theorem modLast_ne {α : Type} (f : α → α) (l : List α) (h : l ≠ []) : modLast f l ≠ [] := by
  cases l with
  | nil => exact absurd rfl h
  | cons a l => cases l <;> simp [modLast]
theorem modLast_length {α : Type} (f : α → α) (l : List α) : (modLast f l).length = l.length := by
  induction l with
  | nil => rfl
  | cons a l ih =>
    cases l with
    | nil => rfl
    | cons b l => simp only [modLast, List.length_cons] at *; omega
theorem snoc_of_ne {α : Type} (l : List α) (h : l ≠ []) : ∃ a c, l = a ++ [c] := ⟨l.dropLast, l.getLast h, (List.dropLast_concat_getLast h).symm⟩

theorem ctTo_take (l : List Sg) (k : Nat) (h : k < l.length) : ctTo (l.take (k + 1)) = ctStep (ctTo (l.take k)) l[k] := by
  unfold ctTo
  rw [List.take_succ_eq_append_getElem h, List.foldl_append]; rfl
theorem ctStep_ne (st : List Ct × Int × Int) (s : Sg) (h : st.1 ≠ [] ∨ s.kind = 1) : (ctStep st s).1 ≠ [] := by
  unfold ctStep
  split
  · simp
  · rename_i h1
    have h2 : st.1 ≠ [] := h.resolve_right h1
    split
    · exact modLast_ne _ _ h2
    · exact modLast_ne _ _ h2

/-- At each place of a valid path: the piece may be behind the one ahead. -/
theorem may_at : ∀ (l : List Sg) (a : Int) (k : Nat) (h : k < l.length), mayFrom a l = true → rightB l[k] (if h0 : 0 < k then (l[k - 1]'(by omega)).kind else a) = true
  | s :: l, a, 0, _, hm => by
    simp only [mayFrom, Bool.and_eq_true] at hm
    simpa using hm.1
  | s :: l, a, k + 1, h, hm => by
    simp only [mayFrom, Bool.and_eq_true] at hm
    have := may_at l s.kind k (by simpa using h) hm.2
    cases k with
    | zero => simpa using this
    | succ k => simpa using this
theorem mayB_from {l : List Sg} (h : mayB l = true) : mayFrom 0 l = true ∧ l.length ≤ 300 := by
  simp [mayB] at h; exact ⟨h.2, h.1⟩
/-- What is known of a piece that is no Move: there is one ahead, and it is no Close. -/
theorem may_inner {l : List Sg} (h : mayB l = true) (k : Nat) (hk : k < l.length) (h1 : l[k].kind ≠ 1) : ∃ h0 : 0 < k, (l[k - 1]'(by omega)).kind ≠ 4 := by
  have := may_at l 0 k hk (mayB_from h).1
  rw [rightB_iff] at this
  rcases this.2 with ⟨h2, _⟩ | ⟨_, h2, h3⟩
  · exact absurd h2 h1
  · by_cases h0 : 0 < k
    · rw [dif_pos h0] at h3; exact ⟨h0, h3⟩
    · rw [dif_neg h0] at h2; exact absurd rfl h2
theorem may_kind {l : List Sg} (h : mayB l = true) (k : Nat) (hk : k < l.length) : 1 ≤ l[k].kind ∧ l[k].kind ≤ 4 := by
  have := may_at l 0 k hk (mayB_from h).1
  rw [rightB_iff] at this
  exact pieceB_kind this.1
theorem may_piece {l : List Sg} (h : mayB l = true) (k : Nat) (hk : k < l.length) : pieceB l[k] = true := by
  have := may_at l 0 k hk (mayB_from h).1
  rw [rightB_iff] at this
  exact this.1
theorem ct_ne {l : List Sg} (h : mayB l = true) : ∀ k, 0 < k → k ≤ l.length → (ctTo (l.take k)).1 ≠ []
  | 0, h0, _ => absurd h0 (by omega)
  | k + 1, _, hk => by
    rw [ctTo_take l k (by omega)]
    apply ctStep_ne
    by_cases h1 : l[k].kind = 1
    · exact .inr h1
    · obtain ⟨h0, _⟩ := may_inner h k (by omega) h1
      exact .inl (ct_ne h k h0 (by omega))
theorem ct_len (l : List Sg) : (ctTo l).1.length ≤ l.length := by
  have : ∀ (l : List Sg) (st : List Ct × Int × Int), (l.foldl ctStep st).1.length ≤ st.1.length + l.length := by
    intro l
    induction l with
    | nil => intro st; simp
    | cons s l ih =>
      intro st
      rw [List.foldl_cons, List.length_cons]
      have h1 := ih (ctStep st s)
      have h2 : (ctStep st s).1.length ≤ st.1.length + 1 := by
        unfold ctStep
        split
        · simp
        · split
          · simp only [modLast_length]; omega
          · simp only [modLast_length]; omega
      omega
  simpa [ctTo] using this l ([], 0, 0)

theorem mem_modLast {α : Type} (f : α → α) (l : List α) (x : α) (h : x ∈ modLast f l) : x ∈ l ∨ ∃ c ∈ l, x = f c := by
  by_cases hl : l = []
  · subst hl; simp [modLast] at h
  · obtain ⟨a, c, rfl⟩ := snoc_of_ne l hl
    rw [modLast_snoc, List.mem_append, List.mem_singleton] at h
    rcases h with h | rfl
    · exact .inl (by simp [h])
    · exact .inr ⟨c, by simp, rfl⟩
theorem ct_es (l : List Sg) : ∀ c ∈ (ctTo l).1, c.es.length ≤ l.length := by
  have : ∀ (l : List Sg) (st : List Ct × Int × Int) (b : Nat), (∀ c ∈ st.1, c.es.length ≤ b) → ∀ c ∈ (l.foldl ctStep st).1, c.es.length ≤ b + l.length := by
    intro l
    induction l with
    | nil => intro st b h c hc; simpa using h c hc
    | cons s l ih =>
      intro st b h c hc
      rw [List.foldl_cons] at hc
      have := ih (ctStep st s) (b + 1) (fun d hd => by
        unfold ctStep at hd
        split at hd
        · rw [List.mem_append, List.mem_singleton] at hd
          rcases hd with hd | rfl
          · have := h d hd; omega
          · simp
        · split at hd
          · rcases mem_modLast _ _ _ hd with hd | ⟨e, he, rfl⟩
            · have := h d hd; omega
            · have := h e he; simp only; omega
          · rcases mem_modLast _ _ _ hd with hd | ⟨e, he, rfl⟩
            · have := h d hd; omega
            · have := h e he; simp only [List.length_append, List.length_singleton]; omega) c hc
      simp only [List.length_cons]; omega
  intro c hc
  have := this l ([], 0, 0) 0 (fun c hc => by simp at hc) c hc
  omega

end Go.Proofs.Ytbpgehaflbacmaa

/- The plain law of FlatNear: the lines lie in the box of their bow; their middles are near the bow. -/
namespace Go.Proofs.Ytbpgehaflbacmaa

theorem plc1_box {a b X C Y n k : Int} (hn : 1 ≤ n) (hk : 0 ≤ k ∧ k ≤ n) (hX : a ≤ X ∧ X ≤ b) (hC : a ≤ C ∧ C ≤ b) (hY : a ≤ Y ∧ Y ≤ b) : a ≤ plc1 X C Y k n ∧ plc1 X C Y k n ≤ b := by
  have hnn : 0 < n * n := Int.mul_pos (by omega) (by omega)
  have p1 : 0 ≤ (n - k) * (n - k) := Int.mul_nonneg (by omega) (by omega)
  have p2 : 0 ≤ k * (n - k) := Int.mul_nonneg (by omega) (by omega)
  have p3 : 0 ≤ k * k := Int.mul_nonneg (by omega) (by omega)
  have q1 : 0 ≤ (X - a) * ((n - k) * (n - k)) := Int.mul_nonneg (by omega) p1
  have q2 : 0 ≤ (C - a) * (k * (n - k)) := Int.mul_nonneg (by omega) p2
  have q3 : 0 ≤ (Y - a) * (k * k) := Int.mul_nonneg (by omega) p3
  have r1 : 0 ≤ (b - X) * ((n - k) * (n - k)) := Int.mul_nonneg (by omega) p1
  have r2 : 0 ≤ (b - C) * (k * (n - k)) := Int.mul_nonneg (by omega) p2
  have r3 : 0 ≤ (b - Y) * (k * k) := Int.mul_nonneg (by omega) p3
  have e1 : (X * (n - k) * (n - k) + 2 * C * k * (n - k) + Y * k * k) - a * (n * n) = (X - a) * ((n - k) * (n - k)) + 2 * ((C - a) * (k * (n - k))) + (Y - a) * (k * k) := by grind
  have e2 : b * (n * n) - (X * (n - k) * (n - k) + 2 * C * k * (n - k) + Y * k * k) = (b - X) * ((n - k) * (n - k)) + 2 * ((b - C) * (k * (n - k))) + (b - Y) * (k * k) := by grind
  exact rnd_between _ _ a b hnn (by omega) (by omega)

/-- Two times the square of n by a place is near two times the place's own sum. -/
theorem plc1_near (X C Y k n : Int) (hn : 1 ≤ n) : -(n * n) ≤ 2 * (n * n * plc1 X C Y k n) - 2 * (X * (n - k) * (n - k) + 2 * C * k * (n - k) + Y * k * k) ∧ 2 * (n * n * plc1 X C Y k n) - 2 * (X * (n - k) * (n - k) + 2 * C * k * (n - k) + Y * k * k) ≤ n * n := by
  have hnn : 0 < n * n := Int.mul_pos (by omega) (by omega)
  have := rnd_bd (X * (n - k) * (n - k) + 2 * C * k * (n - k) + Y * k * k) (n * n) hnn
  unfold plc1
  omega
theorem pw_ge (far : Int) (h : far ≤ 65536) : far ≤ 4 * (pw far * pw far) := by
  unfold pw; repeat (first | (split; · omega) | omega)

theorem mid_near {X C Y n i P Q : Int} (hn : 1 ≤ n) (hf : X - 2 * C + Y ≤ 4 * (n * n) ∧ -(X - 2 * C + Y) ≤ 4 * (n * n))
    (hP : -(n * n) ≤ 2 * (n * n * P) - 2 * (X * (n - i) * (n - i) + 2 * C * i * (n - i) + Y * i * i) ∧ 2 * (n * n * P) - 2 * (X * (n - i) * (n - i) + 2 * C * i * (n - i) + Y * i * i) ≤ n * n)
    (hQ : -(n * n) ≤ 2 * (n * n * Q) - 2 * (X * (n - (i + 1)) * (n - (i + 1)) + 2 * C * (i + 1) * (n - (i + 1)) + Y * (i + 1) * (i + 1)) ∧ 2 * (n * n * Q) - 2 * (X * (n - (i + 1)) * (n - (i + 1)) + 2 * C * (i + 1) * (n - (i + 1)) + Y * (i + 1) * (i + 1)) ≤ n * n) :
    (X * (2 * n - 2 * i - 1) * (2 * n - 2 * i - 1) + 2 * C * (2 * i + 1) * (2 * n - 2 * i - 1) + Y * (2 * i + 1) * (2 * i + 1)) - (P + Q) * 2 * n * n ≤ 8 * n * n ∧
      (P + Q) * 2 * n * n - (X * (2 * n - 2 * i - 1) * (2 * n - 2 * i - 1) + 2 * C * (2 * i + 1) * (2 * n - 2 * i - 1) + Y * (2 * i + 1) * (2 * i + 1)) ≤ 8 * n * n := by
  have e : X * (2 * n - 2 * i - 1) * (2 * n - 2 * i - 1) + 2 * C * (2 * i + 1) * (2 * n - 2 * i - 1) + Y * (2 * i + 1) * (2 * i + 1) - 2 * (X * (n - i) * (n - i) + 2 * C * i * (n - i) + Y * i * i) - 2 * (X * (n - (i + 1)) * (n - (i + 1)) + 2 * C * (i + 1) * (n - (i + 1)) + Y * (i + 1) * (i + 1)) = -(X - 2 * C + Y) := by grind
  have e2 : (P + Q) * 2 * n * n = 2 * (n * n * P) + 2 * (n * n * Q) := by grind
  have e3 : 8 * n * n = 8 * (n * n) := by grind
  have hnn : 0 < n * n := Int.mul_pos (by omega) (by omega)
  omega

/-- What FlatNear asks of one line. -/
def boxed (e f : Ed) : Prop :=
  (if e.bent then min (min e.x0 e.x1) e.cx ≤ f.x1 ∧ f.x1 ≤ max (max e.x0 e.x1) e.cx else min e.x0 e.x1 ≤ f.x1 ∧ f.x1 ≤ max e.x0 e.x1) ∧
    (if e.bent then min (min e.y0 e.y1) e.cy ≤ f.y1 ∧ f.y1 ≤ max (max e.y0 e.y1) e.cy else min e.y0 e.y1 ≤ f.y1 ∧ f.y1 ≤ max e.y0 e.y1)

theorem lnsTo_get (e : Ed) (n : Int) (k i : Nat) (h : i < (lnsTo e n k).length) : (lnsTo e n k)[i] = ⟨plcX e n i, plcY e n i, false, 0, 0, plcX e n (i + 1), plcY e n (i + 1)⟩ := by
  simp [lnsTo]
theorem plcX_at (e : Ed) (n : Int) (i : Nat) : plcX e n (i + 1) = plc1 e.x0 e.cx e.x1 ((i : Int) + 1) n := by simp [plcX]
theorem plcY_at (e : Ed) (n : Int) (i : Nat) : plcY e n (i + 1) = plc1 e.y0 e.cy e.y1 ((i : Int) + 1) n := by simp [plcY]

theorem plcX_near (e : Ed) (n : Int) (i : Nat) (hn : 1 ≤ n) :
    -(n * n) ≤ 2 * (n * n * plcX e n i) - 2 * (e.x0 * (n - i) * (n - i) + 2 * e.cx * i * (n - i) + e.x1 * i * i) ∧ 2 * (n * n * plcX e n i) - 2 * (e.x0 * (n - i) * (n - i) + 2 * e.cx * i * (n - i) + e.x1 * i * i) ≤ n * n := by
  by_cases h : i = 0
  · subst h
    have hnn : 0 < n * n := Int.mul_pos (by omega) (by omega)
    have : n * n * e.x0 = e.x0 * (n - ((0 : Nat) : Int)) * (n - ((0 : Nat) : Int)) + 2 * e.cx * ((0 : Nat) : Int) * (n - ((0 : Nat) : Int)) + e.x1 * ((0 : Nat) : Int) * ((0 : Nat) : Int) := by grind
    simp only [plcX, if_true]
    omega
  · have := plc1_near e.x0 e.cx e.x1 i n hn
    simp only [plcX, h, if_false]; exact this
theorem plcY_near (e : Ed) (n : Int) (i : Nat) (hn : 1 ≤ n) :
    -(n * n) ≤ 2 * (n * n * plcY e n i) - 2 * (e.y0 * (n - i) * (n - i) + 2 * e.cy * i * (n - i) + e.y1 * i * i) ∧ 2 * (n * n * plcY e n i) - 2 * (e.y0 * (n - i) * (n - i) + 2 * e.cy * i * (n - i) + e.y1 * i * i) ≤ n * n := by
  by_cases h : i = 0
  · subst h
    have hnn : 0 < n * n := Int.mul_pos (by omega) (by omega)
    have : n * n * e.y0 = e.y0 * (n - ((0 : Nat) : Int)) * (n - ((0 : Nat) : Int)) + 2 * e.cy * ((0 : Nat) : Int) * (n - ((0 : Nat) : Int)) + e.y1 * ((0 : Nat) : Int) * ((0 : Nat) : Int) := by grind
    simp only [plcY, if_true]
    omega
  · have := plc1_near e.y0 e.cy e.y1 i n hn
    simp only [plcY, h, if_false]; exact this

theorem lns_boxed {e : Ed} (h : edOK e = true) (i : Nat) (hi : i < (lns e).length) : boxed e (lns e)[i] := by
  cases hb : e.bent
  · have hl := lns_flat h hb
    have hs : (lns e)[i] = e := by
      have h1 : (lns e).length = 1 := by rw [hl]; rfl
      have h0 : i = 0 := by omega
      subst h0; simp [hl]
    rw [hs]; unfold boxed; simp only [hb, Bool.false_eq_true, if_false]; omega
  · have hl := lns_yes h hb
    have hn := cntI_bd h hb
    have hs : (lns e)[i] = ⟨plcX e (cntI e) i, plcY e (cntI e) i, false, 0, 0, plcX e (cntI e) (i + 1), plcY e (cntI e) (i + 1)⟩ := by
      simp only [hl]; exact lnsTo_get _ _ _ _ _
    have hi2 : i < (cntI e).toNat := by rw [← lns_len]; exact hi
    rw [hs]; unfold boxed; simp only [hb, if_true, plcX_at, plcY_at]
    have bx := plc1_box (a := min (min e.x0 e.x1) e.cx) (b := max (max e.x0 e.x1) e.cx) (X := e.x0) (C := e.cx) (Y := e.x1) (n := cntI e) (k := (i : Int) + 1) hn.1 (by omega) (by omega) (by omega) (by omega)
    have bY := plc1_box (a := min (min e.y0 e.y1) e.cy) (b := max (max e.y0 e.y1) e.cy) (X := e.y0) (C := e.cy) (Y := e.y1) (n := cntI e) (k := (i : Int) + 1) hn.1 (by omega) (by omega) (by omega) (by omega)
    exact ⟨bx, bY⟩

theorem plcX_range {e : Ed} {n a b : Int} (i : Nat) (hn : 1 ≤ n) (hi : (i : Int) ≤ n) (h0 : a ≤ e.x0 ∧ e.x0 ≤ b) (h1 : a ≤ e.cx ∧ e.cx ≤ b) (h2 : a ≤ e.x1 ∧ e.x1 ≤ b) : a ≤ plcX e n i ∧ plcX e n i ≤ b := by
  unfold plcX; split
  · exact h0
  · exact plc1_box hn (by omega) h0 h1 h2
theorem plcY_range {e : Ed} {n a b : Int} (i : Nat) (hn : 1 ≤ n) (hi : (i : Int) ≤ n) (h0 : a ≤ e.y0 ∧ e.y0 ≤ b) (h1 : a ≤ e.cy ∧ e.cy ≤ b) (h2 : a ≤ e.y1 ∧ e.y1 ≤ b) : a ≤ plcY e n i ∧ plcY e n i ≤ b := by
  unfold plcY; split
  · exact h0
  · exact plc1_box hn (by omega) h0 h1 h2
/-- Each line's ends lie where the edge's points lie. -/
theorem lns_range {e : Ed} {a b : Int} (h : edOK e = true) (hx0 : a ≤ e.x0 ∧ e.x0 ≤ b) (hx1 : a ≤ e.cx ∧ e.cx ≤ b) (hx2 : a ≤ e.x1 ∧ e.x1 ≤ b) (hy0 : a ≤ e.y0 ∧ e.y0 ≤ b) (hy1 : a ≤ e.cy ∧ e.cy ≤ b) (hy2 : a ≤ e.y1 ∧ e.y1 ≤ b) (i : Nat) (hi : i < (lns e).length) :
    (a ≤ (lns e)[i].x0 ∧ (lns e)[i].x0 ≤ b) ∧ (a ≤ (lns e)[i].y0 ∧ (lns e)[i].y0 ≤ b) ∧ (a ≤ (lns e)[i].x1 ∧ (lns e)[i].x1 ≤ b) ∧ (a ≤ (lns e)[i].y1 ∧ (lns e)[i].y1 ≤ b) := by
  cases hb : e.bent
  · have hl := lns_flat h hb
    have hs : (lns e)[i] = e := by
      have h1 : (lns e).length = 1 := by rw [hl]; rfl
      have h0 : i = 0 := by omega
      subst h0; simp [hl]
    rw [hs]; exact ⟨hx0, hy0, hx2, hy2⟩
  · have hl := lns_yes h hb
    have hn := cntI_bd h hb
    have hs : (lns e)[i] = ⟨plcX e (cntI e) i, plcY e (cntI e) i, false, 0, 0, plcX e (cntI e) (i + 1), plcY e (cntI e) (i + 1)⟩ := by
      simp only [hl]; exact lnsTo_get _ _ _ _ _
    have hi2 : i < (cntI e).toNat := by rw [← lns_len]; exact hi
    rw [hs]
    exact ⟨plcX_range i hn.1 (by omega) hx0 hx1 hx2, plcY_range i hn.1 (by omega) hy0 hy1 hy2, plcX_range (i + 1) hn.1 (by omega) hx0 hx1 hx2, plcY_range (i + 1) hn.1 (by omega) hy0 hy1 hy2⟩
theorem lns_count {e : Ed} (h : edOK e = true) : (lns e).length = 1 ∨ (lns e).length = 2 ∨ (lns e).length = 4 ∨ (lns e).length = 8 ∨ (lns e).length = 16 ∨ (lns e).length = 32 ∨ (lns e).length = 64 ∨ (lns e).length = 128 := by
  rw [lns_len]
  cases hb : e.bent
  · rw [cntI_flat h hb]; omega
  · rw [cntI_yes h hb]; have := pw_cases (farI e.x0 e.y0 e.cx e.cy e.x1 e.y1); omega

/-- What FlatNear asks of one line of a bow: its middle is near. -/
def midded (e f : Ed) (n : Int) (i : Int) : Prop :=
  ((e.x0 * (2 * n - 2 * i - 1) * (2 * n - 2 * i - 1) + 2 * e.cx * (2 * i + 1) * (2 * n - 2 * i - 1) + e.x1 * (2 * i + 1) * (2 * i + 1)) - (f.x0 + f.x1) * 2 * n * n ≤ 8 * n * n ∧
      (f.x0 + f.x1) * 2 * n * n - (e.x0 * (2 * n - 2 * i - 1) * (2 * n - 2 * i - 1) + 2 * e.cx * (2 * i + 1) * (2 * n - 2 * i - 1) + e.x1 * (2 * i + 1) * (2 * i + 1)) ≤ 8 * n * n) ∧
  ((e.y0 * (2 * n - 2 * i - 1) * (2 * n - 2 * i - 1) + 2 * e.cy * (2 * i + 1) * (2 * n - 2 * i - 1) + e.y1 * (2 * i + 1) * (2 * i + 1)) - (f.y0 + f.y1) * 2 * n * n ≤ 8 * n * n ∧
      (f.y0 + f.y1) * 2 * n * n - (e.y0 * (2 * n - 2 * i - 1) * (2 * n - 2 * i - 1) + 2 * e.cy * (2 * i + 1) * (2 * n - 2 * i - 1) + e.y1 * (2 * i + 1) * (2 * i + 1)) ≤ 8 * n * n)

theorem lns_midded {e : Ed} (h : edOK e = true) (hb : e.bent = true) (i : Nat) (hi : i < (lns e).length) : midded e (lns e)[i] (cntI e) i := by
  have hl := lns_yes h hb
  have hn := cntI_bd h hb
  have hs : (lns e)[i] = ⟨plcX e (cntI e) i, plcY e (cntI e) i, false, 0, 0, plcX e (cntI e) (i + 1), plcY e (cntI e) (i + 1)⟩ := by
    simp only [hl]; exact lnsTo_get _ _ _ _ _
  have hfar := cntI_yes h hb
  have hge := pw_ge (farI e.x0 e.y0 e.cx e.cy e.x1 e.y1) (by
    have := farI_le (x0 := e.x0) (y0 := e.y0) (cx := e.cx) (cy := e.cy) (x1 := e.x1) (y1 := e.y1) (by rw [edOK_iff] at h; exact edOK_mk h.1 h.2.1 h.2.2.1 h.2.2.2.1 h.2.2.2.2.1 h.2.2.2.2.2.1 (.inl rfl))
    omega)
  rw [← hfar] at hge
  have hfx : e.x0 - 2 * e.cx + e.x1 ≤ 4 * (cntI e * cntI e) ∧ -(e.x0 - 2 * e.cx + e.x1) ≤ 4 * (cntI e * cntI e) := by unfold farI sizeI at hge; omega
  have hfy : e.y0 - 2 * e.cy + e.y1 ≤ 4 * (cntI e * cntI e) ∧ -(e.y0 - 2 * e.cy + e.y1) ≤ 4 * (cntI e * cntI e) := by unfold farI sizeI at hge; omega
  rw [hs]
  have p1 := plcX_near e (cntI e) i hn.1
  have p2 := plcX_near e (cntI e) (i + 1) hn.1
  have q1 := plcY_near e (cntI e) i hn.1
  have q2 := plcY_near e (cntI e) (i + 1) hn.1
  rw [Int.natCast_succ] at p2 q2
  exact ⟨mid_near hn.1 hfx p1 p2, mid_near hn.1 hfy q1 q2⟩

theorem lns_cast {e : Ed} (h : edOK e = true) (hb : e.bent = true) : ((lns e).length : Int) = cntI e := by
  rw [lns_len]; have := cntI_bd h hb; omega

/-- A bow that bends more has no fewer lines. -/
theorem cnt_more {c : Int} (hc : 0 ≤ c ∧ c < 8000) : cntI ⟨0, 0, true, c, 0, 16, 0⟩ ≤ cntI ⟨0, 0, true, c + 40, 0, 16, 0⟩ := by
  have h1 : edOK ⟨0, 0, true, c, 0, 16, 0⟩ = true := edOK_mk (by omega) (by omega) (by omega) (by omega) (by omega) (by omega) (.inl rfl)
  have h2 : edOK ⟨0, 0, true, c + 40, 0, 16, 0⟩ = true := edOK_mk (by omega) (by omega) (by omega) (by omega) (by omega) (by omega) (.inl rfl)
  rw [cntI_yes h1 rfl, cntI_yes h2 rfl]
  have : farI 0 0 c 0 16 0 ≤ farI 0 0 (c + 40) 0 16 0 := by unfold farI sizeI; omega
  simp only
  unfold pw
  repeat' split
  all_goals omega

end Go.Proofs.Ytbpgehaflbacmaa

/- The plain law of FlatAgain: a flat path is valid, flat, and its contours are the path's. -/
namespace Go.Proofs.Ytbpgehaflbacmaa

theorem plc1_last (a c b n : Int) (hn : 1 ≤ n) : plc1 a c b n n = b := by
  have hnn : 0 < n * n := Int.mul_pos (by omega) (by omega)
  unfold plc1
  have : a * (n - n) * (n - n) + 2 * c * n * (n - n) + b * n * n = b * (n * n) := by grind
  rw [this]; exact rnd_exact b _ hnn
/-- The last line ends where the bow ends. -/
theorem lns_last {e : Ed} (h : edOK e = true) (hb : e.bent = true) : ∃ a z, lns e = a ++ [z] ∧ z.x1 = e.x1 ∧ z.y1 = e.y1 := by
  have hn := cntI_bd h hb
  obtain ⟨k, hk⟩ : ∃ k, (cntI e).toNat = k + 1 := ⟨(cntI e).toNat - 1, by omega⟩
  have hk' : ((k : Int) + 1) = cntI e := by omega
  refine ⟨lnsTo e (cntI e) k, _, by rw [lns_yes h hb, hk, lnsTo_snoc], ?_, ?_⟩
  · simp only; rw [plcX_at, hk']; exact plc1_last _ _ _ _ hn.1
  · simp only; rw [plcY_at, hk']; exact plc1_last _ _ _ _ hn.1

theorem modLast_comp {α : Type} (f g : α → α) : ∀ l, modLast f (modLast g l) = modLast (fun c => f (g c)) l
  | [] => rfl
  | [c] => rfl
  | c :: d :: l => by
    have ih := modLast_comp f g (d :: l)
    cases l with
    | nil => rfl
    | cons e l =>
      simp only [modLast] at ih ⊢
      rw [ih]
/-- Where the last edge ends. -/
def endOf (es : List Ed) : Option (Int × Int) := es.getLast?.map fun e => (e.x1, e.y1)
theorem endOf_app (a b : List Ed) (h : b ≠ []) : endOf (a ++ b) = endOf b := by
  unfold endOf; rw [List.getLast?_append]
  cases hb : b.getLast? with
  | none => rw [List.getLast?_eq_none_iff] at hb; exact absurd hb h
  | some z => rfl
/-- Lines alone: they lengthen the last contour. -/
theorem foldLines : ∀ (ls : List Sg) (_ : ∀ s ∈ ls, s.kind = 2) (st : List Ct × Int × Int), ∃ es : List Ed, es.length = ls.length ∧ (∀ e ∈ es, e.bent = false) ∧
    (ls.foldl ctStep st).1 = modLast (fun c => { c with es := c.es ++ es }) st.1 ∧ endOf es = ls.getLast?.map (fun s => (s.x, s.y)) ∧ (ls.foldl ctStep st).2 = (ls.getLast?.map (fun s => (s.x, s.y))).getD st.2
  | [], _, st => ⟨[], rfl, fun e he => by simp at he, by
      simp only [List.foldl_nil, List.append_nil]
      have : ∀ l : List Ct, modLast (fun c => (⟨c.x, c.y, c.es, c.shut⟩ : Ct)) l = l := fun l => by
        by_cases hl : l = []
        · subst hl; rfl
        · obtain ⟨a, c, rfl⟩ := snoc_of_ne l hl; rw [modLast_snoc]
      exact (this st.1).symm, rfl, rfl⟩
  | s :: ls, h, st => by
    have hs : s.kind = 2 := h s (by simp)
    obtain ⟨es, h1, h2, h3, h4, h5⟩ := foldLines ls (fun t ht => h t (by simp [ht])) (ctStep st s)
    have hst : ctStep st s = (modLast (fun c => { c with es := c.es ++ [⟨st.2.1, st.2.2, false, s.cx, s.cy, s.x, s.y⟩] }) st.1, s.x, s.y) := by simp [ctStep, hs]
    refine ⟨⟨st.2.1, st.2.2, false, s.cx, s.cy, s.x, s.y⟩ :: es, by simp [h1], fun e he => ?_, ?_, ?_, ?_⟩
    · rw [List.mem_cons] at he
      rcases he with rfl | he
      · rfl
      · exact h2 e he
    · rw [List.foldl_cons, h3, hst, modLast_comp]; simp
    · cases ls with
      | nil => have : es = [] := List.eq_nil_of_length_eq_zero h1; subst this; rfl
      | cons t ls =>
        cases es with
        | nil => simp at h1
        | cons e es => rw [List.getLast?_cons_cons, ← h4]; unfold endOf; rw [List.getLast?_cons_cons]
    · rw [List.foldl_cons, h5, hst]
      cases ls with
      | nil => rfl
      | cons t ls =>
        rw [List.getLast?_cons_cons]
        obtain ⟨z, hz⟩ : ∃ z, (t :: ls).getLast? = some z := ⟨_, List.getLast?_eq_some_getLast (by simp)⟩
        rw [hz]; rfl

/-- b is what a becomes when its bows are lines. -/
def CtR (a b : Ct) : Prop := a.x = b.x ∧ a.y = b.y ∧ a.shut = b.shut ∧ a.es.length ≤ b.es.length ∧ (∀ e ∈ b.es, e.bent = false) ∧ (a.es ≠ [] → endOf b.es = endOf a.es)
def CtsR : List Ct → List Ct → Prop
  | [], [] => True
  | a :: l, b :: m => CtR a b ∧ CtsR l m
  | _, _ => False
theorem CtsR.length : ∀ {l m : List Ct}, CtsR l m → l.length = m.length
  | [], [], _ => rfl
  | _ :: _, _ :: _, h => by simp [CtsR.length h.2]
  | [], _ :: _, h => h.elim
  | _ :: _, [], h => h.elim
theorem CtsR.get : ∀ {l m : List Ct} (_ : CtsR l m) (i : Nat) (hl : i < l.length) (hm : i < m.length), CtR l[i] m[i]
  | _ :: _, _ :: _, h, 0, _, _ => h.1
  | _ :: _, _ :: _, h, i + 1, hl, hm => CtsR.get h.2 i (by simpa using hl) (by simpa using hm)
  | [], _, _, _, hl, _ => absurd hl (by simp)
  | _ :: _, [], h, _, _, _ => h.elim
theorem CtsR.snoc {a b : Ct} (hab : CtR a b) : ∀ {l m : List Ct}, CtsR l m → CtsR (l ++ [a]) (m ++ [b])
  | [], [], _ => ⟨hab, trivial⟩
  | _ :: _, _ :: _, h => ⟨h.1, CtsR.snoc hab h.2⟩
  | [], _ :: _, h => h.elim
  | _ :: _, [], h => h.elim
theorem CtsR.modLast {f g : Ct → Ct} (hfg : ∀ a b, CtR a b → CtR (f a) (g b)) : ∀ {l m : List Ct}, CtsR l m → CtsR (modLast f l) (modLast g m)
  | [], [], _ => trivial
  | [_], [_], h => ⟨hfg _ _ h.1, trivial⟩
  | _ :: _ :: _, _ :: _ :: _, h => ⟨h.1, CtsR.modLast hfg h.2⟩
  | [], _ :: _, h => h.elim
  | _ :: _, [], h => h.elim
  | [_], _ :: _ :: _, h => h.2.elim
  | _ :: _ :: _, [_], h => h.2.elim

theorem pieceB_co {s : Sg} (h : pieceB s = true) : co s.x = true ∧ co s.y = true ∧ co s.cx = true ∧ co s.cy = true := by
  have h0 : co 0 = true := by decide
  simp only [pieceB, Bool.or_eq_true, Bool.and_eq_true, beq_iff_eq] at h
  rcases h with (⟨_, ⟨⟨⟨h1, h2⟩, h3⟩, h4⟩⟩ | ⟨_, ⟨⟨h1, h2⟩, h3, h4⟩⟩) | ⟨_, ⟨⟨⟨h1, h2⟩, h3⟩, h4⟩⟩
  · rw [h3, h4]; exact ⟨h1, h2, h0, h0⟩
  · exact ⟨h1, h2, h3, h4⟩
  · rw [h1, h2, h3, h4]; exact ⟨h0, h0, h0, h0⟩
theorem bow_ok {x y : Int} {s : Sg} (hx : co x = true) (hy : co y = true) (h : pieceB s = true) : edOK ⟨x, y, true, s.cx, s.cy, s.x, s.y⟩ = true := by
  obtain ⟨h1, h2, h3, h4⟩ := pieceB_co h
  rw [co_iff] at *
  exact edOK_mk hx hy h3 h4 h1 h2 (.inl rfl)
/-- The lines of a bow, as pieces. -/
theorem bow_lines {x y : Int} {s : Sg} (hx : co x = true) (hy : co y = true) (h : pieceB s = true) (hk : s.kind = 3) :
    (∀ t ∈ flatSeg x y s, t.kind = 2 ∧ pieceB t = true) ∧ flatSeg x y s ≠ [] ∧ (flatSeg x y s).getLast?.map (fun t => (t.x, t.y)) = some (s.x, s.y) := by
  have hok := bow_ok hx hy h
  obtain ⟨h1, h2, h3, h4⟩ := pieceB_co h
  rw [co_iff] at h1 h2 h3 h4 hx hy
  rw [flatSeg_bow hk]
  refine ⟨fun t ht => ?_, ?_, ?_⟩
  · rw [List.mem_map] at ht
    obtain ⟨e, he, rfl⟩ := ht
    obtain ⟨i, hi, rfl⟩ := List.getElem_of_mem he
    obtain ⟨_, _, r1, r2⟩ := lns_range (a := -8191) (b := 8191) hok hx h3 h1 hy h4 h2 i hi
    refine ⟨rfl, ?_⟩
    simp [pieceB, lnSg, co_iff.2 r1, co_iff.2 r2]
  · obtain ⟨a, z, hz, _⟩ := lns_last hok rfl
    rw [hz]; simp
  · obtain ⟨a, z, hz, hzx, hzy⟩ := lns_last hok rfl
    rw [hz, List.map_append, List.getLast?_append]
    simp [lnSg, hzx, hzy]

/-- The flat path's contours are the path's, with lines in the place of bows. -/
theorem flat_R : ∀ (l : List Sg) (last x y : Int) (st st' : List Ct × Int × Int), mayFrom last l = true → co x = true → co y = true → CtsR st.1 st'.1 → st.2 = st'.2 →
    CtsR (l.foldl ctStep st).1 ((flatFrom x y l).foldl ctStep st').1 ∧ (l.foldl ctStep st).2 = ((flatFrom x y l).foldl ctStep st').2
  | [], _, _, _, _, _, _, _, _, hR, h2 => ⟨hR, h2⟩
  | s :: l, last, x, y, st, st', hm, hx, hy, hR, h2 => by
    simp only [mayFrom, Bool.and_eq_true] at hm
    obtain ⟨hp, hr⟩ := rightB_iff.1 hm.1
    obtain ⟨c1, c2, _, _⟩ := pieceB_co hp
    rw [flatFrom, List.foldl_cons, List.foldl_append]
    by_cases h3 : s.kind = 3
    · obtain ⟨hl, hne, hlast⟩ := bow_lines hx hy hp h3
      obtain ⟨es, e1, e2, e3, e4, e5⟩ := foldLines (flatSeg x y s) (fun t ht => (hl t ht).1) st'
      have hes : es ≠ [] := fun h => by subst h; exact hne (List.eq_nil_of_length_eq_zero e1.symm)
      refine flat_R l s.kind s.x s.y _ _ hm.2 c1 c2 ?_ ?_
      · rw [e3]
        have : (ctStep st s).1 = modLast (fun c => { c with es := c.es ++ [⟨st.2.1, st.2.2, true, s.cx, s.cy, s.x, s.y⟩] }) st.1 := by simp [ctStep, h3]
        rw [this]
        refine CtsR.modLast (fun a b hab => ?_) hR
        obtain ⟨r1, r2, r3, r4, r5, r6⟩ := hab
        have hlen : 0 < es.length := List.length_pos_iff.2 hes
        refine ⟨r1, r2, r3, by simp only [List.length_append, List.length_singleton]; omega, fun e he => ?_, fun _ => ?_⟩
        · rw [List.mem_append] at he
          rcases he with he | he
          · exact r5 e he
          · exact e2 e he
        · simp only
          rw [endOf_app _ _ hes, endOf_app _ _ (by simp), e4, hlast]; rfl
      · rw [e5, hlast]; simp [ctStep, h3]
    · have hseg : flatSeg x y s = [s] := by simp [flatSeg, h3]
      rw [hseg]
      refine flat_R l s.kind s.x s.y _ _ hm.2 c1 c2 ?_ ?_
      · simp only [List.foldl_cons, List.foldl_nil]
        unfold ctStep
        split
        · exact CtsR.snoc ⟨rfl, rfl, rfl, by simp, fun e he => by simp at he, fun h => absurd rfl h⟩ hR
        · split
          · show CtsR (modLast (fun c => { c with shut := true }) st.1) (modLast (fun c => { c with shut := true }) st'.1)
            refine CtsR.modLast (f := fun c => { c with shut := true }) (g := fun c => { c with shut := true }) (fun a b hab => ?_) hR
            obtain ⟨r1, r2, r3, r4, r5, r6⟩ := hab
            exact ⟨r1, r2, rfl, r4, r5, r6⟩
          · rw [h2]
            show CtsR (modLast (fun c => { c with es := c.es ++ [⟨st'.2.1, st'.2.2, s.kind == 3, s.cx, s.cy, s.x, s.y⟩] }) st.1) (modLast (fun c => { c with es := c.es ++ [⟨st'.2.1, st'.2.2, s.kind == 3, s.cx, s.cy, s.x, s.y⟩] }) st'.1)
            refine CtsR.modLast (f := fun c => { c with es := c.es ++ [⟨st'.2.1, st'.2.2, s.kind == 3, s.cx, s.cy, s.x, s.y⟩] }) (g := fun c => { c with es := c.es ++ [⟨st'.2.1, st'.2.2, s.kind == 3, s.cx, s.cy, s.x, s.y⟩] }) (fun a b hab => ?_) hR
            obtain ⟨r1, r2, r3, r4, r5, r6⟩ := hab
            refine ⟨r1, r2, r3, by simp only [List.length_append, List.length_singleton]; omega, fun e he => ?_, fun _ => ?_⟩
            · rw [List.mem_append, List.mem_singleton] at he
              rcases he with he | rfl
              · exact r5 e he
              · simp [h3]
            · simp only
              rw [endOf_app _ _ (by simp), endOf_app _ _ (by simp)]
      · simp only [List.foldl_cons, List.foldl_nil]
        unfold ctStep
        split
        · rfl
        · split
          · exact h2
          · rfl

theorem mayFrom_lines : ∀ (ls rest : List Sg) (a : Int), (∀ s ∈ ls, s.kind = 2 ∧ pieceB s = true) → ls ≠ [] → a ≠ 0 → a ≠ 4 → mayFrom 2 rest = true → mayFrom a (ls ++ rest) = true
  | [], _, _, _, h, _, _, _ => absurd rfl h
  | s :: ls, rest, a, h, _, h0, h4, hr => by
    obtain ⟨hk, hp⟩ := h s (by simp)
    have h1 : rightB s a = true := rightB_iff.2 ⟨hp, .inr ⟨by omega, h0, h4⟩⟩
    rw [List.cons_append, mayFrom, h1, hk, Bool.true_and]
    by_cases hl : ls = []
    · subst hl; exact hr
    · exact mayFrom_lines ls rest 2 (fun t ht => h t (by simp [ht])) hl (by decide) (by decide) hr
theorem mayFrom_flat : ∀ (l : List Sg) (last last' x y : Int), mayFrom last l = true → (last = last' ∨ (last = 3 ∧ last' = 2)) → co x = true → co y = true → mayFrom last' (flatFrom x y l) = true
  | [], _, _, _, _, _, _, _, _ => rfl
  | s :: l, last, last', x, y, hm, hll, hx, hy => by
    simp only [mayFrom, Bool.and_eq_true] at hm
    obtain ⟨hp, hr⟩ := rightB_iff.1 hm.1
    obtain ⟨c1, c2, _, _⟩ := pieceB_co hp
    rw [flatFrom]
    by_cases h3 : s.kind = 3
    · obtain ⟨hl, hne, _⟩ := bow_lines hx hy hp h3
      have : last' ≠ 0 ∧ last' ≠ 4 := by omega
      exact mayFrom_lines _ _ _ hl hne this.1 this.2 (mayFrom_flat l s.kind 2 s.x s.y hm.2 (.inr ⟨h3, rfl⟩) c1 c2)
    · have hseg : flatSeg x y s = [s] := by simp [flatSeg, h3]
      rw [hseg, List.cons_append, List.nil_append, mayFrom, Bool.and_eq_true]
      exact ⟨rightB_iff.2 ⟨hp, by omega⟩, mayFrom_flat l s.kind s.kind s.x s.y hm.2 (.inl rfl) c1 c2⟩
theorem flatFrom_flat : ∀ (l : List Sg) (x y : Int), (∀ s ∈ l, s.kind ≠ 3) → flatFrom x y l = l
  | [], _, _, _ => rfl
  | s :: l, x, y, h => by
    have hs : flatSeg x y s = [s] := by simp [flatSeg, h s (by simp)]
    rw [flatFrom, hs, flatFrom_flat l _ _ (fun t ht => h t (by simp [ht]))]; rfl
theorem flat_nobow : ∀ (l : List Sg) (x y : Int), ∀ t ∈ flatFrom x y l, t.kind ≠ 3
  | [], _, _, t, h => by simp [flatFrom] at h
  | s :: l, x, y, t, h => by
    rw [flatFrom, List.mem_append] at h
    rcases h with h | h
    · unfold flatSeg at h
      split at h
      · rw [List.mem_map] at h
        obtain ⟨e, _, rfl⟩ := h; simp [lnSg]
      · rename_i h3
        rw [List.mem_singleton] at h; subst h; exact h3
    · exact flat_nobow l _ _ t h

/-- A flat path is valid. -/
theorem flatL_may {l : List Sg} (h : mayB l = true) (hl : (flatL l).length ≤ 300) : mayB (flatL l) = true := by
  have := mayFrom_flat l 0 0 0 0 (mayB_from h).1 (.inl rfl) (by decide) (by decide)
  simp only [mayB, Bool.and_eq_true, decide_eq_true_eq]
  exact ⟨hl, this⟩
/-- A flat path stays as it is. -/
theorem flatL_again (l : List Sg) : flatL (flatL l) = flatL l := flatFrom_flat _ _ _ (flat_nobow l 0 0)
theorem flatE_again {l : List Sg} (h : mayB l = true) (hl : (flatL l).length ≤ 300) : flatE (flatL l) = (flatL l, 0) := by
  have h1 := flatL_may h hl
  rw [flatE_all h1 (by rw [flatL_again]; exact hl), flatL_again]
/-- A path without bows is flat. -/
theorem flatE_nobow {l : List Sg} (h : mayB l = true) (hb : ∀ s ∈ l, s.kind ≠ 3) : flatE l = (l, 0) := by
  have h1 : flatL l = l := flatFrom_flat l 0 0 hb
  rw [flatE_all h (by rw [h1]; exact (mayB_from h).2), h1]
/-- Its contours are the path's. -/
theorem ctsL_flat {l : List Sg} (h : mayB l = true) (hl : (flatL l).length ≤ 300) : CtsR (ctsL l) (ctsL (flatL l)) := by
  have h1 := flatL_may h hl
  simp only [ctsL, h, h1]
  exact (flat_R l 0 0 0 ([], 0, 0) ([], 0, 0) (mayB_from h).1 (by decide) (by decide) trivial rfl).1

end Go.Proofs.Ytbpgehaflbacmaa

/- The plain side of turning a path: contours, turned and flat. -/
namespace Go.Proofs.Ytbpgehaflbacmaa

/-- An edge from its end to its beginning. -/
def flip (e : Ed) : Ed := ⟨e.x1, e.y1, e.bent, e.cx, e.cy, e.x0, e.y0⟩
theorem flip_flip (e : Ed) : flip (flip e) = e := rfl
theorem edOK_flip (e : Ed) : edOK (flip e) = edOK e := by
  rw [Bool.eq_iff_iff, edOK_iff, edOK_iff]
  simp only [flip]
  constructor <;> rintro ⟨h0, h1, h2, h3, h4, h5, h6⟩ <;> exact ⟨h4, h5, h2, h3, h0, h1, h6⟩
theorem farI_flip (x0 y0 cx cy x1 y1 : Int) : farI x1 y1 cx cy x0 y0 = farI x0 y0 cx cy x1 y1 := by
  unfold farI
  have h1 : x1 - 2 * cx + x0 = x0 - 2 * cx + x1 := by omega
  have h2 : y1 - 2 * cy + y0 = y0 - 2 * cy + y1 := by omega
  rw [h1, h2]
theorem cntI_flip (e : Ed) : cntI (flip e) = cntI e := by
  unfold cntI
  rw [edOK_flip]
  simp only [flip, farI_flip]
theorem plc1_flip (a c b k n : Int) : plc1 b c a (n - k) n = plc1 a c b k n := by
  unfold plc1
  have : b * (n - (n - k)) * (n - (n - k)) + 2 * c * (n - k) * (n - (n - k)) + a * (n - k) * (n - k) = a * (n - k) * (n - k) + 2 * c * k * (n - k) + b * k * k := by grind
  rw [this]
theorem plc1_zero (a c b n : Int) (hn : 1 ≤ n) : plc1 a c b 0 n = a := by
  have := plc1_flip a c b 0 n
  rw [Int.sub_zero, plc1_last b c a n hn] at this
  exact this.symm
theorem plcX_all (e : Ed) (n : Int) (k : Nat) (hn : 1 ≤ n) : plcX e n k = plc1 e.x0 e.cx e.x1 k n := by
  unfold plcX; split
  · rename_i h; subst h; exact (plc1_zero _ _ _ n hn).symm
  · rfl
theorem plcY_all (e : Ed) (n : Int) (k : Nat) (hn : 1 ≤ n) : plcY e n k = plc1 e.y0 e.cy e.y1 k n := by
  unfold plcY; split
  · rename_i h; subst h; exact (plc1_zero _ _ _ n hn).symm
  · rfl
theorem plcX_flip (e : Ed) (n k : Nat) (hn : 1 ≤ n) (hk : k ≤ n) : plcX (flip e) n (n - k) = plcX e n k := by
  rw [plcX_all _ _ _ (by omega), plcX_all _ _ _ (by omega), Int.ofNat_sub hk]
  exact plc1_flip e.x0 e.cx e.x1 k n
theorem plcY_flip (e : Ed) (n k : Nat) (hn : 1 ≤ n) (hk : k ≤ n) : plcY (flip e) n (n - k) = plcY e n k := by
  rw [plcY_all _ _ _ (by omega), plcY_all _ _ _ (by omega), Int.ofNat_sub hk]
  exact plc1_flip e.y0 e.cy e.y1 k n
/-- The lines of the edge turned are the lines, turned. -/
theorem lns_flip {e : Ed} (h : edOK e = true) : lns (flip e) = ((lns e).map flip).reverse := by
  have h' : edOK (flip e) = true := by rw [edOK_flip]; exact h
  cases hb : e.bent
  · rw [lns_flat h hb, lns_flat h' hb]; rfl
  · have hn := cntI_bd h hb
    rw [lns_yes h hb, lns_yes h' hb, cntI_flip]
    obtain ⟨n, hn'⟩ : ∃ n : Nat, cntI e = n := ⟨(cntI e).toNat, by omega⟩
    rw [hn']
    have ht : ((n : Int)).toNat = n := rfl
    rw [ht]
    apply List.ext_getElem
    · simp [lnsTo]
    · intro i h1 h2
      have hi : i < n := by simpa [lnsTo] using h1
      rw [List.getElem_reverse]
      simp only [List.getElem_map, List.length_map, lnsTo, List.getElem_range, List.length_range, flip]
      have e1 : n - 1 - i + 1 = n - i := by omega
      have x1 := plcX_flip e n (n - i) (by omega) (by omega)
      have x2 := plcX_flip e n (n - 1 - i) (by omega) (by omega)
      have y1 := plcY_flip e n (n - i) (by omega) (by omega)
      have y2 := plcY_flip e n (n - 1 - i) (by omega) (by omega)
      have e2 : n - (n - i) = i := by omega
      have e3 : n - (n - 1 - i) = i + 1 := by omega
      rw [e2] at x1 y1
      rw [e3] at x2 y2
      rw [e1, ← x1, ← x2, ← y1, ← y2]
      simp [flip, hb]

/-- An edge's piece. -/
def sgE (e : Ed) : Sg := if e.bent then ⟨3, e.x1, e.y1, e.cx, e.cy⟩ else ⟨2, e.x1, e.y1, 0, 0⟩
def clL (b : Bool) : List Sg := if b then [⟨4, 0, 0, 0, 0⟩] else []
/-- A contour's pieces. -/
def pathC (c : Ct) : List Sg := ⟨1, c.x, c.y, 0, 0⟩ :: (c.es.map sgE ++ clL c.shut)
def pathOf (cs : List Ct) : List Sg := cs.flatMap pathC
/-- The edges hang together from x, y on. -/
def chain : Int → Int → List Ed → Prop
  | _, _, [] => True
  | x, y, e :: es => e.x0 = x ∧ e.y0 = y ∧ chain e.x1 e.y1 es
def endX (x : Int) (es : List Ed) : Int := (es.getLast?.map Ed.x1).getD x
def endY (y : Int) (es : List Ed) : Int := (es.getLast?.map Ed.y1).getD y
/-- A contour as Contours makes it. -/
def GoodC (c : Ct) : Prop := chain c.x c.y c.es ∧ (∀ e ∈ c.es, edOK e = true) ∧ co c.x = true ∧ co c.y = true
theorem endX_cons (x : Int) (e : Ed) (es : List Ed) : endX x (e :: es) = endX e.x1 es := by
  unfold endX
  cases es with
  | nil => rfl
  | cons d es =>
    obtain ⟨z, hz⟩ : ∃ z, (d :: es).getLast? = some z := ⟨_, List.getLast?_eq_some_getLast (by simp)⟩
    rw [List.getLast?_cons_cons, hz]; rfl
theorem endY_cons (y : Int) (e : Ed) (es : List Ed) : endY y (e :: es) = endY e.y1 es := by
  unfold endY
  cases es with
  | nil => rfl
  | cons d es =>
    obtain ⟨z, hz⟩ : ∃ z, (d :: es).getLast? = some z := ⟨_, List.getLast?_eq_some_getLast (by simp)⟩
    rw [List.getLast?_cons_cons, hz]; rfl
theorem sgE_step {x y : Int} {e : Ed} (h : edOK e = true) (hx : e.x0 = x) (hy : e.y0 = y) (a : List Ct) (c : Ct) :
    ctStep (a ++ [c], x, y) (sgE e) = (a ++ [{ c with es := c.es ++ [e] }], e.x1, e.y1) := by
  obtain ⟨x0, y0, bent, cx, cy, x1, y1⟩ := e
  simp only at hx hy
  subst hx; subst hy
  rw [edOK_iff] at h
  obtain ⟨-, -, -, -, -, -, h⟩ := h
  cases bent
  · simp at h
    obtain ⟨rfl, rfl⟩ := h
    simp [sgE, ctStep, modLast_snoc]
  · simp [sgE, ctStep, modLast_snoc]
theorem fold_es : ∀ (es : List Ed) (x y : Int) (a : List Ct) (c : Ct), chain x y es → (∀ e ∈ es, edOK e = true) →
    (es.map sgE).foldl ctStep (a ++ [c], x, y) = (a ++ [{ c with es := c.es ++ es }], endX x es, endY y es)
  | [], x, y, a, c, _, _ => by simp [endX, endY]
  | e :: es, x, y, a, c, hc, ho => by
    rw [List.map_cons, List.foldl_cons, sgE_step (ho e (by simp)) hc.1 hc.2.1, fold_es es _ _ _ _ hc.2.2 (fun d hd => ho d (by simp [hd])), endX_cons, endY_cons]
    simp
/-- A good contour's pieces make it. -/
theorem fold_C {c : Ct} (h : GoodC c) (st : List Ct × Int × Int) : (pathC c).foldl ctStep st = (st.1 ++ [c], endX c.x c.es, endY c.y c.es) := by
  unfold pathC
  rw [List.foldl_cons, List.foldl_append]
  have h1 : ctStep st ⟨1, c.x, c.y, 0, 0⟩ = (st.1 ++ [⟨c.x, c.y, [], false⟩], c.x, c.y) := by simp [ctStep]
  rw [h1, fold_es _ _ _ _ _ h.1 h.2.1]
  obtain ⟨x, y, es, b⟩ := c
  cases b <;> simp [clL, ctStep, modLast_snoc]
theorem fold_pathOf : ∀ (cs : List Ct) (_ : ∀ c ∈ cs, GoodC c) (st : List Ct × Int × Int), ((pathOf cs).foldl ctStep st).1 = st.1 ++ cs
  | [], _, st => by simp [pathOf]
  | c :: cs, h, st => by
    have : pathOf (c :: cs) = pathC c ++ pathOf cs := by simp [pathOf]
    rw [this, List.foldl_append, fold_C (h c (by simp)), fold_pathOf cs (fun d hd => h d (by simp [hd]))]
    simp
/-- Contours of the pieces of good contours. -/
theorem ctTo_pathOf {cs : List Ct} (h : ∀ c ∈ cs, GoodC c) : (ctTo (pathOf cs)).1 = cs := by
  have := fold_pathOf cs h ([], 0, 0)
  simpa [ctTo] using this

theorem endX_snoc (x : Int) (es : List Ed) (e : Ed) : endX x (es ++ [e]) = e.x1 := by simp [endX]
theorem endY_snoc (y : Int) (es : List Ed) (e : Ed) : endY y (es ++ [e]) = e.y1 := by simp [endY]
theorem chain_snoc : ∀ (es : List Ed) (x y : Int) (e : Ed), chain x y es → e.x0 = endX x es → e.y0 = endY y es → chain x y (es ++ [e])
  | [], _, _, _, _, hx, hy => ⟨hx, hy, trivial⟩
  | d :: es, x, y, e, hc, hx, hy => ⟨hc.1, hc.2.1, chain_snoc es _ _ e hc.2.2 (by rw [hx, endX_cons]) (by rw [hy, endY_cons])⟩
theorem pathOf_snoc (a : List Ct) (c : Ct) : pathOf (a ++ [c]) = pathOf a ++ pathC c := by simp [pathOf]
theorem lastK_snoc (l : List Sg) (s : Sg) : lastK (l ++ [s]) = s.kind := by simp [lastK]
/-- So far the contours are the path's. -/
def SoFar (l : List Sg) (st : List Ct × Int × Int) : Prop :=
  pathOf st.1 = l ∧ (∀ c ∈ st.1, GoodC c) ∧ (∀ a c, st.1 = a ++ [c] → st.2 = (endX c.x c.es, endY c.y c.es) ∧ (c.shut = true → lastK l = 4)) ∧ co st.2.1 = true ∧ co st.2.2 = true
theorem SoFar.step {l : List Sg} {st : List Ct × Int × Int} {s : Sg} (h : SoFar l st) (hr : rightB s (lastK l) = true) : SoFar (l ++ [s]) (ctStep st s) := by
  obtain ⟨h1, h2, h3, h4, h5⟩ := h
  obtain ⟨hp, hk⟩ := rightB_iff.1 hr
  obtain ⟨c1, c2, c3, c4⟩ := pieceB_co hp
  have hkk := pieceB_kind hp
  obtain ⟨kd, x, y, cx, cy⟩ := s
  simp only at hk c1 c2 c3 c4 hkk
  by_cases k1 : kd = 1
  · subst k1
    have hz : cx = 0 ∧ cy = 0 := by simp [pieceB] at hp; omega
    obtain ⟨rfl, rfl⟩ := hz
    refine ⟨?_, ?_, ?_, c1, c2⟩
    · simp only [ctStep, if_true]; rw [pathOf_snoc, h1]; rfl
    · intro c hc
      simp only [ctStep, if_true, List.mem_append, List.mem_singleton] at hc
      rcases hc with hc | rfl
      · exact h2 c hc
      · exact ⟨trivial, fun e he => by simp at he, c1, c2⟩
    · intro a c hac
      simp only [ctStep, if_true] at hac
      obtain ⟨-, hc⟩ := List.append_inj' hac rfl
      injection hc with hc _
      subst hc
      exact ⟨rfl, fun hh => by cases hh⟩
  · have hl0 : lastK l ≠ 0 ∧ lastK l ≠ 4 := by omega
    have hne : st.1 ≠ [] := fun hh => by rw [hh] at h1; rw [← h1] at hl0; exact hl0.1 rfl
    obtain ⟨ps, px, py⟩ := st
    obtain ⟨a, c, hac⟩ := snoc_of_ne ps hne
    subst hac
    obtain ⟨he, hs⟩ := h3 a c rfl
    simp only at h1 h2 he h4 h5
    injection he with hex hey
    have hsh : c.shut = false := by
      cases hc : c.shut
      · rfl
      · exact absurd (hs hc) hl0.2
    obtain ⟨X, Y, es, b⟩ := c
    simp only at hsh hex hey
    subst hsh
    have hgc := h2 ⟨X, Y, es, false⟩ (by simp)
    rw [pathOf_snoc] at h1
    by_cases k4 : kd = 4
    · subst k4
      have hz : x = 0 ∧ y = 0 ∧ cx = 0 ∧ cy = 0 := by simp [pieceB] at hp; omega
      obtain ⟨rfl, rfl, rfl, rfl⟩ := hz
      have hst : ctStep (a ++ [⟨X, Y, es, false⟩], px, py) ⟨4, 0, 0, 0, 0⟩ = (a ++ [⟨X, Y, es, true⟩], px, py) := by simp [ctStep, modLast_snoc]
      rw [hst]
      refine ⟨?_, ?_, ?_, h4, h5⟩
      · simp only
        rw [pathOf_snoc, ← h1, List.append_assoc]
        simp [pathC, clL]
      · intro d hd
        simp only [List.mem_append, List.mem_singleton] at hd
        rcases hd with hd | rfl
        · exact h2 d (by simp [hd])
        · exact hgc
      · intro a' d had
        obtain ⟨-, hc⟩ := List.append_inj' had rfl
        injection hc with hc _
        subst hc
        exact ⟨by rw [hex, hey], fun _ => by rw [lastK_snoc]⟩
    · have hst : ctStep (a ++ [⟨X, Y, es, false⟩], px, py) ⟨kd, x, y, cx, cy⟩ = (a ++ [⟨X, Y, es ++ [⟨px, py, kd == 3, cx, cy, x, y⟩], false⟩], x, y) := by simp [ctStep, k1, k4, modLast_snoc]
      rw [hst]
      have hed : edOK ⟨px, py, kd == 3, cx, cy, x, y⟩ = true := by
        rw [co_iff] at c1 c2 c3 c4 h4 h5
        refine edOK_mk h4 h5 c3 c4 c1 c2 ?_
        by_cases k3 : kd = 3
        · exact .inl (by simp [k3])
        · exact .inr (by simp [pieceB] at hp; omega)
      refine ⟨?_, ?_, ?_, c1, c2⟩
      · simp only
        rw [pathOf_snoc, ← h1, List.append_assoc]
        have : sgE ⟨px, py, kd == 3, cx, cy, x, y⟩ = ⟨kd, x, y, cx, cy⟩ := by
          by_cases k3 : kd = 3
          · subst k3; simp [sgE]
          · have k2 : kd = 2 := by omega
            have hz : cx = 0 ∧ cy = 0 := by simp [pieceB] at hp; omega
            obtain ⟨rfl, rfl⟩ := hz
            subst k2; simp [sgE]
        simp [pathC, clL, this]
      · intro d hd
        simp only [List.mem_append, List.mem_singleton] at hd
        rcases hd with hd | rfl
        · exact h2 d (by simp [hd])
        · obtain ⟨g1, g2, g3, g4⟩ := hgc
          refine ⟨chain_snoc es X Y _ g1 hex hey, fun e he => ?_, g3, g4⟩
          simp only [List.mem_append, List.mem_singleton] at he
          rcases he with he | rfl
          · exact g2 e he
          · exact hed
      · intro a' d had
        obtain ⟨-, hc⟩ := List.append_inj' had rfl
        injection hc with hc _
        subst hc
        exact ⟨by simp only [endX_snoc, endY_snoc], fun hh => by cases hh⟩
theorem soFar_take {l : List Sg} (h : mayB l = true) : ∀ k, k ≤ l.length → SoFar (l.take k) (ctTo (l.take k))
  | 0, _ => ⟨rfl, fun c hc => by simp [ctTo] at hc, fun a c hac => by simp [ctTo] at hac, by simp [ctTo, co], by simp [ctTo, co]⟩
  | k + 1, hk => by
    have ih := soFar_take h k (by omega)
    have hr := may_at l 0 k hk (mayB_from h).1
    have hlk : lastK (l.take k) = if h0 : 0 < k then (l[k - 1]'(by omega)).kind else 0 := by
      cases k with
      | zero => rfl
      | succ k => rw [List.take_succ_eq_append_getElem (by omega), lastK_snoc]; simp
    rw [← hlk] at hr
    rw [ctTo_take l k hk, List.take_succ_eq_append_getElem hk]
    exact ih.step hr
/-- A valid path is its contours' pieces; they are good. -/
theorem pathOf_ctTo {l : List Sg} (h : mayB l = true) : pathOf (ctTo l).1 = l ∧ ∀ c ∈ (ctTo l).1, GoodC c := by
  have := soFar_take h l.length (Nat.le_refl _)
  rw [List.take_length] at this
  exact ⟨this.1, this.2.1⟩

/-- A contour turned. -/
def turnC (c : Ct) : Ct := ⟨endX c.x c.es, endY c.y c.es, (c.es.map flip).reverse, c.shut⟩
/-- A contour of lines alone. -/
def flatC (c : Ct) : Ct := { c with es := c.es.flatMap lns }
theorem turn_cons (e : Ed) (es : List Ed) : ((e :: es).map flip).reverse = (es.map flip).reverse ++ [flip e] := by simp
/-- The edges turned hang together from the end on, to the beginning. -/
theorem chain_turn : ∀ (es : List Ed) (x y : Int), chain x y es → chain (endX x es) (endY y es) ((es.map flip).reverse) ∧ endX (endX x es) ((es.map flip).reverse) = x ∧ endY (endY y es) ((es.map flip).reverse) = y
  | [], _, _, _ => ⟨trivial, rfl, rfl⟩
  | e :: es, x, y, h => by
    obtain ⟨h1, h2, h3⟩ := chain_turn es e.x1 e.y1 h.2.2
    rw [turn_cons, endX_cons, endY_cons]
    refine ⟨chain_snoc _ _ _ _ h1 h2.symm h3.symm, ?_, ?_⟩
    · rw [endX_snoc]; exact h.1
    · rw [endY_snoc]; exact h.2.1
theorem end_co {es : List Ed} {x y : Int} (h : ∀ e ∈ es, edOK e = true) (hx : co x = true) (hy : co y = true) : co (endX x es) = true ∧ co (endY y es) = true := by
  by_cases hn : es = []
  · subst hn; exact ⟨hx, hy⟩
  · have hm := List.getLast_mem hn
    have ho := h _ hm
    rw [edOK_iff] at ho
    unfold endX endY
    rw [List.getLast?_eq_some_getLast hn]
    exact ⟨co_iff.2 ho.2.2.2.2.1, co_iff.2 ho.2.2.2.2.2.1⟩
theorem GoodC.turn {c : Ct} (h : GoodC c) : GoodC (turnC c) := by
  obtain ⟨h1, h2, h3, h4⟩ := h
  obtain ⟨e1, e2⟩ := end_co h2 h3 h4
  refine ⟨(chain_turn _ _ _ h1).1, fun e he => ?_, e1, e2⟩
  simp only [turnC, List.mem_reverse, List.mem_map] at he
  obtain ⟨d, hd, rfl⟩ := he
  rw [edOK_flip]; exact h2 d hd
theorem flip_map (es : List Ed) : es.map (flip ∘ flip) = es := by
  induction es with
  | nil => rfl
  | cons e es ih => rw [List.map_cons, ih]; rfl
theorem turn_turn {c : Ct} (h : GoodC c) : turnC (turnC c) = c := by
  obtain ⟨-, h2, h3⟩ := chain_turn _ _ _ h.1
  obtain ⟨x, y, es, b⟩ := c
  simp only [turnC] at *
  rw [h2, h3]
  simp only [List.map_reverse, List.reverse_reverse, List.map_map, flip_map]
theorem flat_map_lns (es : List Ed) (h : ∀ e ∈ es, edOK e = true) : ((es.map flip).reverse).flatMap lns = ((es.flatMap lns).map flip).reverse := by
  induction es with
  | nil => rfl
  | cons e es ih =>
    rw [turn_cons, List.flatMap_append, ih (fun d hd => h d (by simp [hd]))]
    simp only [List.flatMap_cons, List.flatMap_nil, List.append_nil, List.map_append, List.reverse_append]
    rw [lns_flip (h e (by simp))]

theorem flatSeg_sgE {e : Ed} (h : edOK e = true) : flatSeg e.x0 e.y0 (sgE e) = (lns e).map sgE := by
  cases hb : e.bent
  · rw [lns_flat h hb]
    simp [sgE, hb, flatSeg]
  · have h3 : (sgE e).kind = 3 := by simp [sgE, hb]
    rw [flatSeg_bow h3]
    have he : (⟨e.x0, e.y0, true, (sgE e).cx, (sgE e).cy, (sgE e).x, (sgE e).y⟩ : Ed) = e := by
      obtain ⟨x0, y0, b, cx, cy, x1, y1⟩ := e
      simp only at hb
      subst hb
      rfl
    rw [he]
    apply List.map_congr_left
    intro d hd
    obtain ⟨i, hi, rfl⟩ := List.getElem_of_mem hd
    simp [sgE, lnSg, lns_straight e hb i hi]
theorem sgE_end (e : Ed) : (sgE e).x = e.x1 ∧ (sgE e).y = e.y1 := by unfold sgE; split <;> exact ⟨rfl, rfl⟩
theorem flat_es : ∀ (es : List Ed) (x y : Int) (tl : List Sg), chain x y es → (∀ e ∈ es, edOK e = true) →
    flatFrom x y (es.map sgE ++ tl) = (es.flatMap lns).map sgE ++ flatFrom (endX x es) (endY y es) tl
  | [], x, y, tl, _, _ => rfl
  | e :: es, x, y, tl, hc, ho => by
    rw [List.map_cons, List.cons_append, flatFrom, endX_cons, endY_cons, (sgE_end e).1, (sgE_end e).2, flat_es es _ _ tl hc.2.2 (fun d hd => ho d (by simp [hd])), List.flatMap_cons, List.map_append, List.append_assoc, ← hc.1, ← hc.2.1, flatSeg_sgE (ho e (by simp))]
theorem flat_cl (b : Bool) (x y : Int) (tl : List Sg) : ∃ x' y', flatFrom x y (clL b ++ tl) = clL b ++ flatFrom x' y' tl := by
  cases b
  · exact ⟨x, y, rfl⟩
  · exact ⟨0, 0, by simp [clL, flatFrom, flatSeg]⟩
/-- A flat path is its flat contours' pieces. -/
theorem flat_pathOf : ∀ (cs : List Ct) (x y : Int), (∀ c ∈ cs, GoodC c) → flatFrom x y (pathOf cs) = pathOf (cs.map flatC)
  | [], _, _, _ => rfl
  | c :: cs, x, y, h => by
    have h1 : pathOf (c :: cs) = ⟨1, c.x, c.y, 0, 0⟩ :: (c.es.map sgE ++ (clL c.shut ++ pathOf cs)) := by simp [pathOf, pathC]
    have h2 : pathOf ((c :: cs).map flatC) = ⟨1, c.x, c.y, 0, 0⟩ :: ((c.es.flatMap lns).map sgE ++ (clL c.shut ++ pathOf (cs.map flatC))) := by simp [pathOf, pathC, flatC]
    obtain ⟨g1, g2, _, _⟩ := h c (by simp)
    rw [h1, h2, flatFrom]
    simp only
    rw [flat_es _ _ _ _ g1 g2]
    obtain ⟨x', y', he⟩ := flat_cl c.shut (endX c.x c.es) (endY c.y c.es) (pathOf cs)
    rw [he, flat_pathOf cs x' y' (fun d hd => h d (by simp [hd]))]
    simp [flatSeg]

theorem lns_straightE {e : Ed} (h : edOK e = true) : ∀ d ∈ lns e, d.bent = false ∧ edOK d = true := by
  intro d hd
  have ho := h
  rw [edOK_iff] at ho
  obtain ⟨i, hi, rfl⟩ := List.getElem_of_mem hd
  obtain ⟨r1, r2, r3, r4⟩ := lns_range (a := -8191) (b := 8191) h ho.1 ho.2.2.1 ho.2.2.2.2.1 ho.2.1 ho.2.2.2.1 ho.2.2.2.2.2.1 i hi
  cases hb : e.bent
  · have hl := lns_flat h hb
    have hm : (lns e)[i] = e := by
      have := List.getElem_mem hi
      simp only [hl, List.mem_singleton] at this ⊢
      simp
    rw [hm]; exact ⟨hb, h⟩
  · have hs := lns_straight e hb i hi
    refine ⟨hs, ?_⟩
    have hc : (lns e)[i].cx = 0 ∧ (lns e)[i].cy = 0 := by
      have hl := lns_yes h hb
      simp only [hl]
      simp [lnsTo]
    rw [edOK_iff]
    exact ⟨r1, r2, by omega, by omega, r3, r4, .inr hc⟩
theorem endX_app (x : Int) (a b : List Ed) : endX x (a ++ b) = endX (endX x a) b := by
  unfold endX; rw [List.getLast?_append]
  cases b.getLast? <;> simp
theorem endY_app (y : Int) (a b : List Ed) : endY y (a ++ b) = endY (endY y a) b := by
  unfold endY; rw [List.getLast?_append]
  cases b.getLast? <;> simp
theorem turnC_flatC {c : Ct} (h : ∀ e ∈ c.es, edOK e = true) (hx : endX c.x (c.es.flatMap lns) = endX c.x c.es) (hy : endY c.y (c.es.flatMap lns) = endY c.y c.es) : flatC (turnC c) = turnC (flatC c) := by
  obtain ⟨x, y, es, b⟩ := c
  simp only [flatC, turnC] at *
  rw [hx, hy, flat_map_lns es h]

theorem chain_lnsTo (e : Ed) (n : Int) : ∀ k, chain e.x0 e.y0 (lnsTo e n k) ∧ endX e.x0 (lnsTo e n k) = plcX e n k ∧ endY e.y0 (lnsTo e n k) = plcY e n k
  | 0 => ⟨trivial, rfl, rfl⟩
  | k + 1 => by
    obtain ⟨h1, h2, h3⟩ := chain_lnsTo e n k
    rw [lnsTo_snoc]
    exact ⟨chain_snoc _ _ _ _ h1 h2.symm h3.symm, endX_snoc _ _ _, endY_snoc _ _ _⟩
theorem chain_lns {e : Ed} (h : edOK e = true) : chain e.x0 e.y0 (lns e) ∧ (∀ x, endX x (lns e) = e.x1) ∧ (∀ y, endY y (lns e) = e.y1) := by
  cases hb : e.bent
  · rw [lns_flat h hb]; exact ⟨⟨rfl, rfl, trivial⟩, fun _ => rfl, fun _ => rfl⟩
  · obtain ⟨a, z, hz, h1, h2⟩ := lns_last h hb
    refine ⟨?_, fun x => by rw [hz, endX_snoc, h1], fun y => by rw [hz, endY_snoc, h2]⟩
    rw [lns_yes h hb]; exact (chain_lnsTo e _ _).1
theorem chain_app : ∀ (a b : List Ed) (x y : Int), chain x y a → chain (endX x a) (endY y a) b → chain x y (a ++ b)
  | [], _, _, _, _, h => h
  | e :: a, b, x, y, ha, hb => ⟨ha.1, ha.2.1, chain_app a b _ _ ha.2.2 (by rw [endX_cons, endY_cons] at hb; exact hb)⟩
theorem chain_flat : ∀ (es : List Ed) (x y : Int), chain x y es → (∀ e ∈ es, edOK e = true) →
    chain x y (es.flatMap lns) ∧ endX x (es.flatMap lns) = endX x es ∧ endY y (es.flatMap lns) = endY y es
  | [], _, _, _, _ => ⟨trivial, rfl, rfl⟩
  | e :: es, x, y, hc, ho => by
    obtain ⟨c1, c2, c3⟩ := chain_lns (ho e (by simp))
    obtain ⟨h1, h2, h3⟩ := chain_flat es e.x1 e.y1 hc.2.2 (fun d hd => ho d (by simp [hd]))
    rw [List.flatMap_cons]
    refine ⟨chain_app _ _ _ _ (by rw [← hc.1, ← hc.2.1]; exact c1) (by rw [c2, c3]; exact h1), ?_, ?_⟩
    · rw [endX_app, c2, h2, endX_cons]
    · rw [endY_app, c3, h3, endY_cons]
theorem GoodC.flat {c : Ct} (h : GoodC c) : GoodC (flatC c) := by
  refine ⟨(chain_flat _ _ _ h.1 h.2.1).1, fun e he => ?_, h.2.2.1, h.2.2.2⟩
  simp only [flatC, List.mem_flatMap] at he
  obtain ⟨d, hd, he⟩ := he
  exact (lns_straightE (h.2.1 d hd) e he).2
/-- Flat and turned is turned and flat. -/
theorem flat_turn {c : Ct} (h : GoodC c) : flatC (turnC c) = turnC (flatC c) :=
  turnC_flatC h.2.1 (chain_flat _ _ _ h.1 h.2.1).2.1 (chain_flat _ _ _ h.1 h.2.1).2.2

end Go.Proofs.Ytbpgehaflbacmaa

/- The plain side of Back: the turned contours' pieces; what they are for flat paths. -/
namespace Go.Proofs.Ytbpgehaflbacmaa

/-- What Back returns. -/
def backL (l : List Sg) : List Sg := pathOf ((ctsL l).map turnC)

/-- A Move alone. -/
def bare (c : Ct) : Bool := c.es.isEmpty && !c.shut
/-- No contour but the last is a Move alone. -/
def ends : List Ct → Bool
  | [] => true
  | [_] => true
  | c :: d :: l => !bare c && ends (d :: l)

theorem mayFrom_23 : ∀ (r : List Sg), mayFrom 3 r = mayFrom 2 r
  | [] => rfl
  | s :: r => by
    simp only [mayFrom]
    have : rightB s 3 = rightB s 2 := by
      rw [Bool.eq_iff_iff, rightB_iff, rightB_iff]; simp
    rw [this]
theorem pieceB_sgE {e : Ed} (h : edOK e = true) : pieceB (sgE e) = true := by
  rw [edOK_iff] at h
  obtain ⟨x0, y0, bent, cx, cy, x1, y1⟩ := e
  simp only at h
  cases bent <;> simp [sgE, pieceB, co_iff] <;> omega
theorem sgE_kind (e : Ed) : (sgE e).kind = 3 ∨ (sgE e).kind = 2 := by unfold sgE; split <;> simp
theorem right_sgE {e : Ed} (h : edOK e = true) {a : Int} (h0 : a ≠ 0) (h4 : a ≠ 4) : rightB (sgE e) a = true := by
  rw [rightB_iff]
  refine ⟨pieceB_sgE h, .inr ⟨?_, h0, h4⟩⟩
  rcases sgE_kind e with k | k <;> rw [k] <;> decide
theorem mayFrom_es : ∀ (es : List Ed) (a : Int) (r : List Sg), (∀ e ∈ es, edOK e = true) → a ≠ 0 → a ≠ 4 → mayFrom a (es.map sgE ++ r) = mayFrom (if es.isEmpty then a else 2) r
  | [], a, r, _, _, _ => rfl
  | e :: es, a, r, h, h0, h4 => by
    rw [List.map_cons, List.cons_append, mayFrom, right_sgE (h e (by simp)) h0 h4, Bool.true_and]
    have h23 : ∀ m, mayFrom (sgE e).kind m = mayFrom 2 m := fun m => by
      rcases sgE_kind e with k | k <;> rw [k]
      exact mayFrom_23 m
    rw [h23, mayFrom_es es 2 r (fun d hd => h d (by simp [hd])) (by decide) (by decide)]
    cases es <;> simp
theorem right_move {x y : Int} (hx : co x = true) (hy : co y = true) {a : Int} : rightB ⟨1, x, y, 0, 0⟩ a = true ↔ a ≠ 1 := by
  rw [co_iff] at hx hy
  rw [rightB_iff]
  have : pieceB ⟨1, x, y, 0, 0⟩ = true := by simp [pieceB, co_iff]; omega
  simp [this]
theorem mayFrom_C {c : Ct} (h : GoodC c) (a : Int) (r : List Sg) : mayFrom a (pathC c ++ r) = true ↔ a ≠ 1 ∧ mayFrom (if c.shut then 4 else if c.es.isEmpty then 1 else 2) r = true := by
  obtain ⟨x, y, es, b⟩ := c
  obtain ⟨_, h2, h3, h4⟩ := h
  simp only at h2 h3 h4
  unfold pathC
  simp only
  rw [List.cons_append, mayFrom, Bool.and_eq_true, right_move h3 h4, List.append_assoc, mayFrom_es _ _ _ h2 (by simp) (by simp)]
  cases b
  · simp [clL]
  · have : ∀ k : Int, k ≠ 0 → k ≠ 4 → rightB ⟨4, 0, 0, 0, 0⟩ k = true := fun k h0 h4 => by
      rw [rightB_iff]; exact ⟨by decide, .inr ⟨by decide, h0, h4⟩⟩
    simp only [clL, if_true, List.cons_append, List.nil_append, mayFrom, Bool.and_eq_true]
    rw [this _ (by split <;> decide) (by split <;> decide)]
    simp
theorem mayFrom_pathOf : ∀ (cs : List Ct) (a : Int), (∀ c ∈ cs, GoodC c) → a ≠ 1 → (mayFrom a (pathOf cs) = true ↔ ends cs = true)
  | [], _, _, _ => by simp [pathOf, mayFrom, ends]
  | [c], a, h, ha => by
    have := mayFrom_C (h c (by simp)) a []
    rw [List.append_nil] at this
    have e : pathOf [c] = pathC c := by simp [pathOf]
    rw [e, this]
    simp [mayFrom, ends, ha]
  | c :: d :: l, a, h, ha => by
    have e : pathOf (c :: d :: l) = pathC c ++ pathOf (d :: l) := by simp [pathOf]
    rw [e, mayFrom_C (h c (by simp)) a]
    have hd : ∀ k, mayFrom k (pathOf (d :: l)) = true ↔ k ≠ 1 ∧ ends (d :: l) = true := fun k => by
      by_cases hk : k = 1
      · subst hk
        have e2 : pathOf (d :: l) = pathC d ++ pathOf l := by simp [pathOf]
        rw [e2, mayFrom_C (h d (by simp))]
        simp
      · rw [mayFrom_pathOf (d :: l) k (fun x hx => h x (by simp at hx ⊢; exact .inr hx)) hk]
        simp [hk]
    rw [hd]
    simp only [ends, bare, Bool.and_eq_true, Bool.not_eq_true', Bool.and_eq_false_iff]
    cases c.shut <;> cases c.es.isEmpty <;> simp [ha]
theorem bare_turn (c : Ct) : bare (turnC c) = bare c := by
  obtain ⟨x, y, es, b⟩ := c
  cases es <;> simp [bare, turnC]
theorem ends_map (f : Ct → Ct) (hf : ∀ c, bare (f c) = bare c) : ∀ cs, ends (cs.map f) = ends cs
  | [] => rfl
  | [_] => rfl
  | c :: d :: l => by
    have := ends_map f hf (d :: l)
    rw [List.map_cons] at this
    simp only [List.map_cons, ends, hf, this]
theorem pathC_turn_len (c : Ct) : (pathC (turnC c)).length = (pathC c).length := by simp [pathC, turnC]
theorem pathOf_turn_len (cs : List Ct) : (pathOf (cs.map turnC)).length = (pathOf cs).length := by
  induction cs with
  | nil => rfl
  | cons c cs ih =>
    simp only [pathOf, List.map_cons, List.flatMap_cons, List.length_append, pathC_turn_len] at *
    rw [ih]
theorem pathOf_take_le (cs : List Ct) (k : Nat) : (pathOf (cs.take k)).length ≤ (pathOf cs).length := by
  have : pathOf cs = pathOf (cs.take k) ++ pathOf (cs.drop k) := by
    unfold pathOf; rw [← List.flatMap_append, List.take_append_drop]
  rw [this, List.length_append]; omega
theorem pathOf_take_succ (cs : List Ct) (k : Nat) (h : k < cs.length) : pathOf (cs.take (k + 1)) = pathOf (cs.take k) ++ pathC cs[k] := by
  rw [List.take_succ_eq_append_getElem h, pathOf_snoc]

theorem ctsL_may {l : List Sg} (h : mayB l = true) : ctsL l = (ctTo l).1 := by simp [ctsL, h]
theorem ctsL_good (l : List Sg) : ∀ c ∈ ctsL l, GoodC c := by
  cases h : mayB l
  · intro c hc; simp [ctsL, h] at hc
  · rw [ctsL_may h]; exact (pathOf_ctTo h).2
theorem pathOf_ctsL {l : List Sg} (h : mayB l = true) : pathOf (ctsL l) = l := by rw [ctsL_may h]; exact (pathOf_ctTo h).1
theorem good_map {f : Ct → Ct} {cs : List Ct} (hf : ∀ c, GoodC c → GoodC (f c)) (h : ∀ c ∈ cs, GoodC c) : ∀ c ∈ cs.map f, GoodC c := by
  intro c hc
  rw [List.mem_map] at hc
  obtain ⟨d, hd, rfl⟩ := hc
  exact hf d (h d hd)
theorem backL_len_le (l : List Sg) : (backL l).length ≤ 300 := by
  unfold backL
  rw [pathOf_turn_len]
  cases h : mayB l
  · simp [ctsL, h, pathOf]
  · rw [pathOf_ctsL h]; exact (mayB_from h).2
theorem backL_len {l : List Sg} (h : mayB l = true) : (backL l).length = l.length := by
  unfold backL; rw [pathOf_turn_len, pathOf_ctsL h]
theorem mayB_pathOf {cs : List Ct} (h : ∀ c ∈ cs, GoodC c) : mayB (pathOf cs) = true ↔ (pathOf cs).length ≤ 300 ∧ ends cs = true := by
  unfold mayB
  rw [Bool.and_eq_true, decide_eq_true_eq, mayFrom_pathOf cs 0 h (by decide)]
theorem backL_may {l : List Sg} (h : mayB l = true) : mayB (backL l) = true := by
  have hg := ctsL_good l
  have h1 := h
  rw [← pathOf_ctsL h, mayB_pathOf hg] at h1
  unfold backL
  rw [mayB_pathOf (good_map (fun _ => GoodC.turn) hg), pathOf_turn_len, ends_map _ bare_turn]
  exact h1
/-- The contours of the pieces of good contours that make a valid path. -/
theorem ctsL_pathOf {cs : List Ct} (h : ∀ c ∈ cs, GoodC c) (hm : mayB (pathOf cs) = true) : ctsL (pathOf cs) = cs := by rw [ctsL_may hm, ctTo_pathOf h]
theorem ctsL_back {l : List Sg} (h : mayB l = true) : ctsL (backL l) = (ctsL l).map turnC := ctsL_pathOf (good_map (fun _ => GoodC.turn) (ctsL_good l)) (backL_may h)
theorem map_turn_turn {cs : List Ct} (h : ∀ c ∈ cs, GoodC c) : (cs.map turnC).map turnC = cs := by
  rw [List.map_map]
  conv => rhs; rw [← List.map_id cs]
  exact List.map_congr_left fun c hc => turn_turn (h c hc)
/-- Back twice. -/
theorem backL_back {l : List Sg} (h : mayB l = true) : backL (backL l) = l := by
  have : backL (backL l) = pathOf ((ctsL (backL l)).map turnC) := rfl
  rw [this, ctsL_back h, map_turn_turn (ctsL_good l), pathOf_ctsL h]

theorem flatL_back {l : List Sg} : flatL (backL l) = pathOf (((ctsL l).map flatC).map turnC) := by
  unfold flatL backL
  rw [flat_pathOf _ _ _ (good_map (fun _ => GoodC.turn) (ctsL_good l)), List.map_map, List.map_map]
  congr 1
  exact List.map_congr_left fun c hc => flat_turn (ctsL_good l c hc)
theorem flatL_cts {l : List Sg} (h : mayB l = true) : flatL l = pathOf ((ctsL l).map flatC) := by
  conv => lhs; rw [← pathOf_ctsL h]
  unfold flatL
  rw [flat_pathOf _ _ _ (ctsL_good l)]
theorem flat_back {l q r : List Sg} {e f : Int} (h : mayB l = true) (h1 : flatE (backL l) = (q, e)) (h2 : flatE l = (r, f)) : e = f ∧ q = backL r := by
  have hl : (flatL (backL l)).length = (flatL l).length := by rw [flatL_back, flatL_cts h, pathOf_turn_len]
  unfold flatE at h1 h2
  rw [h] at h2
  rw [backL_may h, hl] at h1
  simp only [Bool.true_eq_false, if_false] at h1 h2
  by_cases hov : 300 < (flatL l).length
  · rw [if_pos hov] at h1 h2
    injection h1 with a b; injection h2 with c d
    subst a; subst b; subst c; subst d
    exact ⟨rfl, rfl⟩
  · rw [if_neg hov] at h1 h2
    injection h1 with a b; injection h2 with c d
    subst a; subst b; subst c; subst d
    refine ⟨rfl, ?_⟩
    have hm := flatL_may h (by omega)
    have hgf := good_map (f := flatC) (fun _ => GoodC.flat) (ctsL_good l)
    have hc : ctsL (flatL l) = (ctsL l).map flatC := by
      rw [flatL_cts h] at hm ⊢
      exact ctsL_pathOf hgf hm
    unfold backL at *
    rw [hc]
    exact flatL_back

theorem cts_len (l : List Sg) : (ctsL l).length ≤ l.length := by
  unfold ctsL
  split
  · simp
  · exact ct_len l
theorem cts_es (l : List Sg) : ∀ c ∈ ctsL l, c.es.length ≤ l.length := by
  intro c hc
  unfold ctsL at hc
  split at hc
  · simp at hc
  · exact ct_es l c hc
theorem rev_take (es : List Ed) (j z : Nat) (h : z + 1 + j = es.length) (hz : z < es.length) :
    (((es.map flip).reverse.take (j + 1)).map sgE) = (((es.map flip).reverse.take j).map sgE) ++ [sgE (flip es[z])] := by
  rw [List.take_succ_eq_append_getElem (by simp; omega), List.map_append]
  congr 1
  simp only [List.map_cons, List.map_nil, List.getElem_reverse, List.getElem_map, List.length_map]
  congr 3
  congr 1
  omega
theorem turn_succ (cs : List Ct) (k : Nat) (h : k < cs.length) : pathOf ((cs.take (k + 1)).map turnC) = pathOf ((cs.take k).map turnC) ++ pathC (turnC cs[k]) := by
  rw [List.take_succ_eq_append_getElem h, List.map_append, List.map_singleton, pathOf_snoc]
theorem turn_take_le (cs : List Ct) (k : Nat) : (pathOf ((cs.take k).map turnC)).length ≤ (pathOf (cs.map turnC)).length := by
  rw [List.map_take]; exact pathOf_take_le _ _
theorem pathC_turn (c : Ct) : pathC (turnC c) = ⟨1, endX c.x c.es, endY c.y c.es, 0, 0⟩ :: (((c.es.map flip).reverse).map sgE ++ clL c.shut) := rfl
theorem endX_get (x : Int) (es : List Ed) (h : es.length - 1 < es.length) : endX x es = es[es.length - 1].x1 := by
  unfold endX; rw [List.getLast?_eq_getElem?, List.getElem?_eq_getElem h]; rfl
theorem endY_get (y : Int) (es : List Ed) (h : es.length - 1 < es.length) : endY y es = es[es.length - 1].y1 := by
  unfold endY; rw [List.getLast?_eq_getElem?, List.getElem?_eq_getElem h]; rfl

end Go.Proofs.Ytbpgehaflbacmaa

/- The plain side of layer 35: how long a piece is, places on a contour, which parts are drawn. -/
namespace Go.Proofs.Ytbpgehaflbacmaa

/-- The root of a whole number, downwards, bit by bit. -/
def flrTo (n : Int) : Nat → Int
  | 0 => 0
  | k + 1 => if (flrTo n k + 2 ^ (31 - k)) * (flrTo n k + 2 ^ (31 - k)) ≤ n then flrTo n k + 2 ^ (31 - k) else flrTo n k
def flr (n : Int) : Int := flrTo n 32

theorem two_pos (k : Nat) : (0 : Int) < 2 ^ k := Int.pow_pos (by omega)
theorem flrTo_nonneg (n : Int) : ∀ k, 0 ≤ flrTo n k
  | 0 => Int.le_refl _
  | k + 1 => by
    have h := flrTo_nonneg n k
    have := two_pos (31 - k)
    unfold flrTo
    split <;> omega
theorem flr_nonneg (n : Int) : 0 ≤ flr n := flrTo_nonneg n 32
theorem flrTo_inv (n : Int) (h0 : 0 ≤ n) (hn : n < 18446744073709551616) : ∀ k, k ≤ 32 → ∃ m : Int, flrTo n k = m * 2 ^ (32 - k) ∧ 0 ≤ m ∧ m + 1 ≤ 2 ^ k ∧ flrTo n k * flrTo n k ≤ n ∧ n < (flrTo n k + 2 ^ (32 - k)) * (flrTo n k + 2 ^ (32 - k))
  | 0, _ => ⟨0, by simp [flrTo], by omega, by simp, by simpa [flrTo] using h0, by simp [flrTo]; omega⟩
  | k + 1, hk => by
    obtain ⟨m, h1, h2, h3, h4, h5⟩ := flrTo_inv n h0 hn k (by omega)
    have e1 : 32 - k = (31 - k) + 1 := by omega
    have e2 : 32 - (k + 1) = 31 - k := by omega
    have e3 : (2 : Int) ^ (32 - k) = 2 * 2 ^ (31 - k) := by rw [e1, Int.pow_succ]; omega
    have e4 : (2 : Int) ^ (k + 1) = 2 * 2 ^ k := by rw [Int.pow_succ]; omega
    have e5 : flrTo n (k + 1) = if (flrTo n k + 2 ^ (31 - k)) * (flrTo n k + 2 ^ (31 - k)) ≤ n then flrTo n k + 2 ^ (31 - k) else flrTo n k := rfl
    rw [e5, e2, e4]
    rw [e3] at h1 h5
    generalize (2 : Int) ^ (31 - k) = t at *
    generalize flrTo n k = r at *
    by_cases hc : (r + t) * (r + t) ≤ n
    · rw [if_pos hc]
      refine ⟨2 * m + 1, by rw [h1]; grind, by omega, by omega, hc, ?_⟩
      have : r + t + t = r + 2 * t := by omega
      rw [this]; exact h5
    · rw [if_neg hc]
      exact ⟨2 * m, by rw [h1]; grind, by omega, by omega, h4, by omega⟩
theorem flr_spec {n : Int} (h0 : 0 ≤ n) (hn : n < 18446744073709551616) : 0 ≤ flr n ∧ flr n < 4294967296 ∧ flr n * flr n ≤ n ∧ n < (flr n + 1) * (flr n + 1) := by
  obtain ⟨m, h1, h2, h3, h4, h5⟩ := flrTo_inv n h0 hn 32 (Nat.le_refl _)
  simp only [Nat.sub_self, Int.pow_zero, Int.mul_one] at h1 h5
  refine ⟨flr_nonneg n, ?_, h4, h5⟩
  show flrTo n 32 < _
  rw [h1]; omega
theorem sq_le {a b : Int} (ha : 0 ≤ a) (hab : a ≤ b) : a * a ≤ b * b := Int.mul_le_mul hab hab ha (by omega)
theorem flr_eq {n r : Int} (hr : 0 ≤ r) (h1 : r * r ≤ n) (h2 : n < (r + 1) * (r + 1)) (hn : n < 18446744073709551616) : flr n = r := by
  have h0 : 0 ≤ n := Int.le_trans (Int.mul_nonneg hr hr) h1
  obtain ⟨a, _, b, c⟩ := flr_spec h0 hn
  rcases Int.lt_trichotomy (flr n) r with h | h | h
  · have := sq_le (a := flr n + 1) (b := r) (by omega) (by omega); omega
  · exact h
  · have := sq_le (a := r + 1) (b := flr n) (by omega) (by omega); omega
theorem flr_le {n b : Int} (h0 : 0 ≤ n) (hn : n < 18446744073709551616) (hb : 0 ≤ b) (h : n < (b + 1) * (b + 1)) : flr n ≤ b := by
  obtain ⟨a, _, c, _⟩ := flr_spec h0 hn
  apply Decidable.byContradiction; intro hc
  have := sq_le (a := b + 1) (b := flr n) (by omega) (by omega); omega
theorem flr_ge {n b : Int} (h0 : 0 ≤ n) (hn : n < 18446744073709551616) (h : b * b ≤ n) (_hb : 0 ≤ b) : b ≤ flr n := by
  obtain ⟨a, _, _, c⟩ := flr_spec h0 hn
  apply Decidable.byContradiction; intro hc
  have := sq_le (a := flr n + 1) (b := b) (by omega) (by omega); omega

/-- How long a straight piece is. -/
def sqE (e : Ed) : Int := (e.x1 - e.x0) * (e.x1 - e.x0) + (e.y1 - e.y0) * (e.y1 - e.y0)
def lenE (e : Ed) : Int := flr (sqE e)
/-- Does it lead somewhere else? -/
def moved (e : Ed) : Bool := !(e.x0 == e.x1) || !(e.y0 == e.y1)
/-- A straight one on the page. -/
def Strt (e : Ed) : Prop := e.bent = false ∧ edOK e = true
theorem lenE_nonneg (e : Ed) : 0 ≤ lenE e := flr_nonneg _
theorem sq_bd {a A : Int} (h : -A ≤ a ∧ a ≤ A) : 0 ≤ a * a ∧ a * a ≤ A * A := by
  rcases Int.le_total 0 a with h0 | h0
  · exact ⟨Int.mul_nonneg h0 h0, sq_le h0 h.2⟩
  · have := sq_le (a := -a) (b := A) (by omega) (by omega)
    rw [Int.neg_mul_neg] at this
    exact ⟨Int.mul_nonneg_of_nonpos_of_nonpos h0 h0, this⟩
theorem sq_pos {a : Int} (h : a ≠ 0) : 1 ≤ a * a := by
  rcases Int.lt_or_gt_of_ne h with h | h
  · have := sq_le (a := 1) (b := -a) (by omega) (by omega); rw [Int.neg_mul_neg] at this; omega
  · have := sq_le (a := 1) (b := a) (by omega) (by omega); omega
theorem sqE_bd {e : Ed} (h : edOK e = true) : 0 ≤ sqE e ∧ sqE e ≤ 536739848 ∧ (0 ≤ (e.x1 - e.x0) * (e.x1 - e.x0) ∧ (e.x1 - e.x0) * (e.x1 - e.x0) ≤ 268369924) ∧ (0 ≤ (e.y1 - e.y0) * (e.y1 - e.y0) ∧ (e.y1 - e.y0) * (e.y1 - e.y0) ≤ 268369924) := by
  obtain ⟨h0, h1, _, _, h4, h5, _⟩ := edOK_iff.1 h
  have a := sq_bd (a := e.x1 - e.x0) (A := 16382) (by omega)
  have b := sq_bd (a := e.y1 - e.y0) (A := 16382) (by omega)
  unfold sqE
  omega
theorem lenE_bd {e : Ed} (h : edOK e = true) : 0 ≤ lenE e ∧ lenE e ≤ 23167 := by
  have := sqE_bd h
  exact ⟨lenE_nonneg e, flr_le (by omega) (by omega) (by omega) (by omega)⟩
theorem lenE_pos {e : Ed} (h : edOK e = true) (hm : moved e = true) : 1 ≤ lenE e := by
  have hb := sqE_bd h
  refine flr_ge (by omega) (by omega) ?_ (by omega)
  unfold sqE at *
  simp only [moved, Bool.or_eq_true, Bool.not_eq_true', beq_eq_false_iff_ne, ne_eq] at hm
  rcases hm with hm | hm
  · have := sq_pos (a := e.x1 - e.x0) (by omega); omega
  · have := sq_pos (a := e.y1 - e.y0) (by omega); omega
theorem lenE_still {e : Ed} (h : moved e = false) : lenE e = 0 := by
  simp only [moved, Bool.or_eq_false_iff, Bool.not_eq_false', beq_iff_eq] at h
  have : sqE e = 0 := by unfold sqE; rw [h.1, h.2]; simp
  unfold lenE
  rw [this]
  exact flr_eq (by omega) (by omega) (by omega) (by omega)

/-- The piece that closes a contour. -/
def backE (c : Ct) : Ed := ⟨endX c.x c.es, endY c.y c.es, false, 0, 0, c.x, c.y⟩
/-- A contour's pieces. -/
def piecesC (c : Ct) : List Ed := c.es.filter moved ++ (if c.shut && moved (backE c) then [backE c] else [])
/-- How long they are. -/
def sumL : List Ed → Int
  | [] => 0
  | e :: l => lenE e + sumL l
theorem sumL_nonneg : ∀ l, 0 ≤ sumL l
  | [] => Int.le_refl _
  | e :: l => by have := sumL_nonneg l; have := lenE_nonneg e; simp only [sumL]; omega
theorem sumL_app (a b : List Ed) : sumL (a ++ b) = sumL a + sumL b := by
  induction a with
  | nil => simp [sumL]
  | cons e a ih => rw [List.cons_append]; simp only [sumL]; omega
theorem sumL_take (l : List Ed) (k : Nat) (h : k < l.length) : sumL (l.take (k + 1)) = sumL (l.take k) + lenE l[k] := by
  rw [List.take_succ_eq_append_getElem h, sumL_app]; simp [sumL]
theorem sumL_take_le (l : List Ed) (k : Nat) : sumL (l.take k) ≤ sumL l := by
  have := sumL_app (l.take k) (l.drop k)
  rw [List.take_append_drop] at this
  have := sumL_nonneg (l.drop k); omega
theorem sumL_bd : ∀ {l : List Ed} (_ : ∀ e ∈ l, edOK e = true), sumL l ≤ 23167 * l.length
  | [], _ => by simp [sumL]
  | e :: l, h => by
    have := sumL_bd (l := l) (fun d hd => h d (by simp [hd]))
    have := lenE_bd (h e (by simp))
    simp only [sumL, List.length_cons]; omega
/-- Where each one ends. -/
def endsL (l : List Ed) : List Int := (List.range l.length).map fun i => sumL (l.take (i + 1))
theorem endsL_len (l : List Ed) : (endsL l).length = l.length := by simp [endsL]
theorem endsL_get (l : List Ed) (i : Nat) (h : i < (endsL l).length) : (endsL l)[i] = sumL (l.take (i + 1)) := by simp [endsL]
theorem endsL_snoc (l : List Ed) (e : Ed) : endsL (l ++ [e]) = endsL l ++ [sumL l + lenE e] := by
  apply List.ext_getElem
  · simp [endsL_len]
  · intro i h1 h2
    rw [endsL_get]
    rw [endsL_len, List.length_append, List.length_singleton] at h1
    by_cases hi : i < l.length
    · rw [List.getElem_append_left (by rw [endsL_len]; exact hi), endsL_get, List.take_append_of_le_length (by omega)]
    · have : i = l.length := by omega
      subst this
      rw [List.getElem_append_right (by rw [endsL_len]; omega)]
      rw [List.take_of_length_le (by simp), sumL_app]
      simp [sumL]
theorem endsL_last (l : List Ed) (h : l.length - 1 < (endsL l).length) : (endsL l)[l.length - 1] = sumL l := by
  rw [endsL_get, List.take_of_length_le (by omega)]

/-- A place on a piece. -/
def atE (e : Ed) (k : Int) : Int × Int := (rnd (e.x0 * lenE e + (e.x1 - e.x0) * k) (lenE e), rnd (e.y0 * lenE e + (e.y1 - e.y0) * k) (lenE e))
/-- A place on pieces. -/
def atW : List Ed → Int → Int × Int
  | [], _ => (0, 0)
  | e :: l, s => if s ≤ lenE e then atE e s else atW l (s - lenE e)
theorem atW_at : ∀ (l : List Ed) (i : Nat) (s : Int) (h : i < l.length), (0 < i → sumL (l.take i) < s) → s ≤ sumL (l.take (i + 1)) → atW l s = atE l[i] (s - sumL (l.take i))
  | [], _, _, h, _, _ => by simp at h
  | e :: l, 0, s, _, _, h2 => by
    simp [sumL] at h2
    simp [atW, sumL, h2]
  | e :: l, i + 1, s, h, h1, h2 => by
    have h1' := h1 (by omega)
    simp only [List.take_succ_cons, sumL] at h1' h2
    have := sumL_nonneg (l.take i)
    have hn : ¬ s ≤ lenE e := by omega
    have ih := atW_at l i (s - lenE e) (by simpa using h) (fun _ => by omega) (by omega)
    simp only [atW, if_neg hn, List.take_succ_cons, sumL, List.getElem_cons_succ]
    rw [ih]
    congr 1; omega
/-- A piece's end, where it lies between two places. -/
def innE (t : Int) (e : Ed) (a b : Int) : List Sg := if a < t ∧ t < b then [⟨2, e.x1, e.y1, 0, 0⟩] else []
/-- The ends between two places. -/
def innF (t : Int) : List Ed → Int → Int → List Sg
  | [], _, _ => []
  | e :: l, a, b => innE (t + lenE e) e a b ++ innF (t + lenE e) l a b
def innW (l : List Ed) (a b : Int) : List Sg := innF 0 l a b
theorem innF_snoc : ∀ (l : List Ed) (t : Int) (e : Ed) (a b : Int), innF t (l ++ [e]) a b = innF t l a b ++ innE (t + sumL l + lenE e) e a b
  | [], t, e, a, b => by simp [innF, sumL]
  | d :: l, t, e, a, b => by
    have h : t + sumL (d :: l) + lenE e = t + lenE d + sumL l + lenE e := by simp only [sumL]; omega
    rw [h, List.cons_append]
    simp only [innF]
    rw [innF_snoc l, List.append_assoc]
theorem innW_take (l : List Ed) (k : Nat) (h : k < l.length) (a b : Int) : innW (l.take (k + 1)) a b = innW (l.take k) a b ++ innE (sumL (l.take (k + 1))) l[k] a b := by
  unfold innW
  rw [sumL_take l k h, List.take_succ_eq_append_getElem h, innF_snoc, Int.zero_add]
theorem innE_len (t : Int) (e : Ed) (a b : Int) : (innE t e a b).length ≤ 1 := by unfold innE; split <;> simp
theorem innF_len : ∀ (l : List Ed) (t a b : Int), (innF t l a b).length ≤ l.length
  | [], _, _, _ => by simp [innF]
  | e :: l, t, a, b => by
    have := innF_len l (t + lenE e) a b
    have := innE_len (t + lenE e) e a b
    simp only [innF, List.length_append, List.length_cons]
    omega
/-- The part from a place to a place. -/
def partW (l : List Ed) (a b : Int) : List Sg := ⟨1, (atW l a).1, (atW l a).2, 0, 0⟩ :: (innW l a b ++ [⟨2, (atW l b).1, (atW l b).2, 0, 0⟩])
theorem partW_len (l : List Ed) (a b : Int) : (partW l a b).length ≤ l.length + 2 := by
  have := innF_len l 0 a b
  simp only [partW, innW, List.length_cons, List.length_append, List.length_nil]; omega

/-- So many lengths of the row, round and round. -/
def pre (on : List Int) : Nat → Int
  | 0 => 0
  | k + 1 => pre on k + on.getD (k % on.length) 0
/-- What the k-th length draws. -/
def dashAt (on : List Int) (f : Int) (ps : List Ed) (j : Nat) : List Sg :=
  if j % 2 = 0 ∧ 0 < sumL ps ∧ pre on j - f < sumL ps ∧ (0 < pre on (j + 1) - f ∨ (pre on (j + 1) - f = 0 ∧ pre on j - f = 0)) then partW ps (max (pre on j - f) 0) (min (pre on (j + 1) - f) (sumL ps)) else []
def dashTo (on : List Int) (f : Int) (ps : List Ed) (k : Nat) : List Sg := (List.range k).flatMap (dashAt on f ps)
/-- So many are enough. -/
def bnd (on : List Int) (f n : Int) : Nat := ((n + f).toNat + 1) * on.length
def dashW (on : List Int) (f : Int) (ps : List Ed) : List Sg := dashTo on f ps (bnd on f (sumL ps))
/-- What is drawn of a contour; of a path. -/
def dashC (on : List Int) (f : Int) (c : Ct) : List Sg := dashW on f (piecesC c)
def dashL (on : List Int) (f : Int) (l : List Sg) : List Sg := (ctsL l).flatMap (dashC on f)
def cutL (on : List Int) (f : Int) (l : List Sg) : List Sg × Int := if on = [] then (l, 0) else if 300 < (dashL on f l).length then ([], 5) else (dashL on f l, 0)
/-- May lengths be? -/
def lensB (on : List Int) : Bool := decide (on.length ≤ 11) && on.all (fun v => decide (0 ≤ v) && decide (v ≤ 32767)) && (decide (0 < on.sum) || on.isEmpty)
/-- Lengths: some, none below 0, not all 0. -/
structure Row (on : List Int) : Prop where
  nonneg : ∀ v ∈ on, 0 ≤ v
  most : ∀ v ∈ on, v ≤ 32767
  some : 0 < on.sum

section
variable {on : List Int}
theorem Row.ne (h : Row on) : on ≠ [] := by rintro rfl; have := h.some; simp at this
theorem Row.len (h : Row on) : 0 < on.length := by have := h.ne; cases on with | nil => exact absurd rfl this | cons a l => simp
theorem Row.get (h : Row on) (k : Nat) : 0 ≤ on.getD (k % on.length) 0 ∧ on.getD (k % on.length) 0 ≤ 32767 := by
  have hl : k % on.length < on.length := Nat.mod_lt _ h.len
  rw [List.getD_eq_getElem?_getD, List.getElem?_eq_getElem hl]
  exact ⟨h.nonneg _ (List.getElem_mem hl), h.most _ (List.getElem_mem hl)⟩
theorem Row.step (h : Row on) (k : Nat) : pre on k ≤ pre on (k + 1) ∧ pre on (k + 1) ≤ pre on k + 32767 := by
  have := h.get k; simp only [pre]; omega
theorem Row.mono (h : Row on) {j k : Nat} (hjk : j ≤ k) : pre on j ≤ pre on k := by
  induction k with
  | zero => have : j = 0 := by omega
            subst this; exact Int.le_refl _
  | succ k ih =>
    rcases Nat.lt_or_ge k j with h1 | h1
    · have : j = k + 1 := by omega
      subst this; exact Int.le_refl _
    · have := ih h1; have := (h.step k).1; omega
theorem Row.nonnegP (h : Row on) (k : Nat) : 0 ≤ pre on k := h.mono (j := 0) (Nat.zero_le _)
theorem pre_le_sum (on : List Int) : ∀ k, k ≤ on.length → pre on k = (on.take k).sum
  | 0, _ => by simp [pre]
  | k + 1, hk => by
    have hl : k < on.length := hk
    have := pre_le_sum on k (by omega)
    rw [List.take_succ_eq_append_getElem hl, List.sum_append, ← this]
    simp only [pre, Nat.mod_eq_of_lt hl]
    rw [List.getD_eq_getElem?_getD, List.getElem?_eq_getElem hl]
    simp
theorem pre_len (on : List Int) : pre on on.length = on.sum := by rw [pre_le_sum on _ (Nat.le_refl _), List.take_length]
theorem pre_round (on : List Int) : ∀ k, pre on (on.length + k) = on.sum + pre on k
  | 0 => by rw [Nat.add_zero, pre_len]; simp [pre]
  | k + 1 => by
    have := pre_round on k
    rw [← Nat.add_assoc]
    simp only [pre, Nat.add_mod_left]
    omega
theorem pre_rounds (on : List Int) (m : Nat) : pre on (m * on.length) = m * on.sum := by
  induction m with
  | zero => simp [pre]
  | succ m ih => rw [Nat.succ_mul, Nat.add_comm, pre_round, ih]; grind
/-- A row twice is the row. -/
theorem pre_dbl (on : List Int) : ∀ k, pre (on ++ on) k = pre on k
  | 0 => rfl
  | k + 1 => by
    rcases Nat.eq_zero_or_pos on.length with h0 | h0
    · have : on = [] := List.eq_nil_of_length_eq_zero h0
      subst this; rfl
    · simp only [pre]
      rw [pre_dbl on k]
      congr 1
      have hb : k % on.length < on.length := Nat.mod_lt _ h0
      have h1 : k % (on ++ on).length < (on ++ on).length := Nat.mod_lt _ (by rw [List.length_append]; omega)
      have h2 : k % (on ++ on).length % on.length = k % on.length := by rw [List.length_append, ← Nat.two_mul]; exact Nat.mod_mul_left_mod _ _ _
      rw [List.getD_eq_getElem?_getD, List.getD_eq_getElem?_getD, List.getElem?_append]
      rw [List.length_append] at h1 h2
      rw [List.length_append]
      split
      · rename_i h
        rw [Nat.mod_eq_of_lt h] at h2; rw [h2]
      · rename_i h
        rw [Nat.mod_eq_sub_mod (by omega), Nat.mod_eq_of_lt (by omega)] at h2; rw [h2]
theorem Row.dbl (h : Row on) : Row (on ++ on) := ⟨fun v hv => h.nonneg v (by simpa using hv), fun v hv => h.most v (by simpa using hv), by rw [List.sum_append]; have := h.some; omega⟩
theorem dashAt_dbl (on : List Int) : dashAt (on ++ on) = dashAt on := by funext f ps j; simp only [dashAt, pre_dbl]
theorem dashTo_dbl (on : List Int) : dashTo (on ++ on) = dashTo on := by funext f ps j; simp only [dashTo, dashAt_dbl]

theorem dashTo_succ (on : List Int) (f : Int) (ps : List Ed) (k : Nat) : dashTo on f ps (k + 1) = dashTo on f ps k ++ dashAt on f ps k := by
  simp [dashTo, List.range_succ]
theorem dashAt_past (h : Row on) {f : Int} {ps : List Ed} {k j : Nat} (hk : sumL ps ≤ pre on k - f) (hj : k ≤ j) : dashAt on f ps j = [] := by
  have := h.mono hj
  unfold dashAt
  rw [if_neg (by omega)]
theorem dashTo_past (h : Row on) {f : Int} {ps : List Ed} {k : Nat} (hk : sumL ps ≤ pre on k - f) : ∀ d, dashTo on f ps (k + d) = dashTo on f ps k
  | 0 => rfl
  | d + 1 => by rw [← Nat.add_assoc, dashTo_succ, dashAt_past h hk (by omega), List.append_nil, dashTo_past h hk d]
theorem dashTo_same (h : Row on) {f : Int} {ps : List Ed} {k k' : Nat} (hk : sumL ps ≤ pre on k - f) (hk' : sumL ps ≤ pre on k' - f) : dashTo on f ps k = dashTo on f ps k' := by
  rcases Nat.le_total k k' with hl | hl
  · have := dashTo_past h hk (k' - k); rw [show k + (k' - k) = k' by omega] at this; exact this.symm
  · have := dashTo_past h hk' (k - k'); rw [show k' + (k - k') = k by omega] at this; exact this
theorem bnd_past (h : Row on) {f n : Int} : n ≤ pre on (bnd on f n) - f := by
  unfold bnd
  rw [pre_rounds]
  have h1 := h.some
  have h2 : ((((n + f).toNat + 1 : Nat) : Int)) * 1 ≤ (((n + f).toNat + 1 : Nat) : Int) * on.sum := Int.mul_le_mul_of_nonneg_left (by omega) (by omega)
  omega
theorem lt_bnd (h : Row on) {f n : Int} {k : Nat} (hk : pre on k - f < n) : k < bnd on f n := by
  apply Decidable.byContradiction; intro hc
  have := h.mono (show bnd on f n ≤ k by omega)
  have := bnd_past h (f := f) (n := n); omega
theorem dashTo_all (h : Row on) {f : Int} {ps : List Ed} {k : Nat} (hk : sumL ps ≤ pre on k - f) : dashTo on f ps k = dashW on f ps := dashTo_same h hk (bnd_past h)
theorem dashW_dbl (h : Row on) (f : Int) (ps : List Ed) : dashW (on ++ on) f ps = dashW on f ps := by
  unfold dashW
  rw [dashTo_dbl]
  refine dashTo_same h ?_ (bnd_past h)
  have := bnd_past h.dbl (f := f) (n := sumL ps)
  rwa [pre_dbl] at this
theorem dashW_none {ps : List Ed} (h : sumL ps = 0) (on : List Int) (f : Int) : dashW on f ps = [] := by
  unfold dashW dashTo
  rw [List.flatMap_eq_nil_iff]
  intro j _
  unfold dashAt
  rw [if_neg (by omega)]
theorem dashTo_len (on : List Int) (f : Int) (ps : List Ed) {k k' : Nat} (h : k ≤ k') : (dashTo on f ps k).length ≤ (dashTo on f ps k').length := by
  induction k' with
  | zero => have : k = 0 := by omega
            subst this; exact Nat.le_refl _
  | succ k' ih =>
    rcases Nat.lt_or_ge k' k with h1 | h1
    · have : k = k' + 1 := by omega
      subst this; exact Nat.le_refl _
    · have := ih h1; rw [dashTo_succ, List.length_append]; omega
theorem dashTo_le (h : Row on) (f : Int) (ps : List Ed) (k : Nat) : (dashTo on f ps k).length ≤ (dashW on f ps).length := by
  rcases Nat.le_total k (bnd on f (sumL ps)) with hl | hl
  · exact dashTo_len on f ps hl
  · have := dashTo_past h (bnd_past h (f := f) (n := sumL ps)) (k - bnd on f (sumL ps))
    rw [show bnd on f (sumL ps) + (k - bnd on f (sumL ps)) = k by omega] at this
    rw [this]; exact Nat.le_refl _
/-- A round more that is passed by says nothing. -/
theorem dashTo_round (h : Row on) (he : on.length % 2 = 0) {f : Int} (hf : 1 ≤ f) (ps : List Ed) : ∀ k, dashTo on (f + on.sum) ps (on.length + k) = dashTo on f ps k
  | 0 => by
    rw [Nat.add_zero]
    have hz : dashTo on f ps 0 = [] := rfl
    rw [hz]
    unfold dashTo
    rw [List.flatMap_eq_nil_iff]
    intro j hj
    rw [List.mem_range] at hj
    have h1 := h.mono (show j + 1 ≤ on.length by omega)
    rw [pre_len] at h1
    unfold dashAt
    rw [if_neg (by omega)]
  | k + 1 => by
    rw [← Nat.add_assoc, dashTo_succ, dashTo_succ, dashTo_round h he hf ps k]
    congr 1
    have e1 := pre_round on k
    have e2 : pre on (on.length + k + 1) = on.sum + pre on (k + 1) := pre_round on (k + 1)
    unfold dashAt
    rw [e1, e2]
    have p : (on.length + k) % 2 = k % 2 := by omega
    have a1 : on.sum + pre on k - (f + on.sum) = pre on k - f := by omega
    have a2 : on.sum + pre on (k + 1) - (f + on.sum) = pre on (k + 1) - f := by omega
    rw [p, a1, a2]
theorem dashW_round (h : Row on) (he : on.length % 2 = 0) {f : Int} (hf : 1 ≤ f) (ps : List Ed) : dashW on (f + on.sum) ps = dashW on f ps := by
  have h1 := bnd_past h (f := f) (n := sumL ps)
  refine Eq.trans ?_ (dashTo_round h he hf ps (bnd on f (sumL ps)))
  refine (dashTo_all h ?_).symm
  rw [pre_round]; omega
theorem dashW_rounds (h : Row on) (he : on.length % 2 = 0) {f : Int} (hf : 1 ≤ f) (ps : List Ed) : ∀ m : Nat, dashW on (f + m * on.sum) ps = dashW on f ps
  | 0 => by simp
  | m + 1 => by
    have hm : 0 ≤ (m : Int) * on.sum := Int.mul_nonneg (by omega) (Int.le_of_lt h.some)
    have e : f + ((m + 1 : Nat) : Int) * on.sum = (f + m * on.sum) + on.sum := by grind
    rw [e, dashW_round h he (by omega) ps, dashW_rounds h he hf ps m]
/-- Whole rounds but one say nothing. -/
def redF (R f : Int) : Int := if R ≤ f then f % R + R else f
theorem dashW_red (h : Row on) (he : on.length % 2 = 0) (f : Int) (ps : List Ed) : dashW on (redF on.sum f) ps = dashW on f ps := by
  unfold redF
  split
  · rename_i hr
    have hs := h.some
    have h1 := Int.mul_ediv_add_emod f on.sum
    have h2 := Int.emod_nonneg f (show on.sum ≠ 0 by omega)
    have h3 : 1 ≤ f / on.sum := by rw [Int.le_ediv_iff_mul_le hs]; omega
    obtain ⟨m, hm⟩ : ∃ m : Nat, f / on.sum = m + 1 := ⟨(f / on.sum - 1).toNat, by omega⟩
    have := dashW_rounds h he (f := f % on.sum + on.sum) (by omega) ps m
    rw [← this]
    congr 1
    rw [hm] at h1
    grind
  · rfl
end
theorem redF_bd {R f : Int} (hR : 0 < R) (hf : 0 ≤ f) : 0 ≤ redF R f ∧ redF R f < 2 * R := by
  unfold redF
  have := Int.emod_nonneg f (show R ≠ 0 by omega)
  have := Int.emod_lt_of_pos f hR
  split <;> omega

theorem lensB_row {on : List Int} (h : lensB on = true) (hn : on ≠ []) : Row on ∧ on.length ≤ 11 := by
  simp only [lensB, Bool.and_eq_true, Bool.or_eq_true, decide_eq_true_eq, List.all_eq_true, List.isEmpty_iff] at h
  obtain ⟨⟨h1, h2⟩, h3⟩ := h
  exact ⟨⟨fun v hv => (h2 v hv).1, fun v hv => (h2 v hv).2, h3.resolve_right hn⟩, h1⟩

/-- The contours' pieces are straight ones on the page that lead somewhere else. -/
theorem piecesC_ok {c : Ct} (h : GoodC c) (hb : ∀ e ∈ c.es, e.bent = false) : ∀ e ∈ piecesC c, Strt e ∧ moved e = true := by
  intro e he
  unfold piecesC at he
  rw [List.mem_append, List.mem_filter] at he
  rcases he with he | he
  · exact ⟨⟨hb e he.1, h.2.1 e he.1⟩, he.2⟩
  · split at he
    · rename_i hc
      rw [List.mem_singleton] at he
      subst he
      simp only [Bool.and_eq_true] at hc
      obtain ⟨h1, h2⟩ := end_co h.2.1 h.2.2.1 h.2.2.2
      have h3 := h.2.2
      rw [co_iff, co_iff] at h3
      rw [co_iff] at h1 h2
      exact ⟨⟨rfl, edOK_mk h1 h2 (by omega) (by omega) h3.1 h3.2 (.inr ⟨rfl, rfl⟩)⟩, hc.2⟩
    · simp at he
theorem piecesC_len (c : Ct) : (piecesC c).length ≤ c.es.length + 1 := by
  unfold piecesC
  rw [List.length_append]
  have := List.length_filter_le moved c.es
  split <;> simp <;> omega

end Go.Proofs.Ytbpgehaflbacmaa

/- The plain side of layer 33: which points a stroke covers. -/
namespace Go.Proofs.Ytbpgehaflbacmaa

/-- A style. -/
structure Sy where
  wide : Int
  cap : Int
  join : Int
deriving DecidableEq
/-- May a style be? -/
def mayS (s : Sy) : Bool := decide (0 ≤ s.wide) && decide (s.wide ≤ 2048) && decide (0 ≤ s.cap) && decide (s.cap ≤ 2) && decide (0 ≤ s.join) && decide (s.join ≤ 1)
theorem mayS_iff {s : Sy} : mayS s = true ↔ 0 ≤ s.wide ∧ s.wide ≤ 2048 ∧ 0 ≤ s.cap ∧ s.cap ≤ 2 ∧ 0 ≤ s.join ∧ s.join ≤ 1 := by
  simp only [mayS, Bool.and_eq_true, decide_eq_true_eq]; omega

/-- The sign of a number; of p + q times the root of d. -/
def sgnI (v : Int) : Int := if v < 0 then -1 else if 0 < v then 1 else 0
def rsgn (p q d : Int) : Int :=
  if sgnI p = 0 ∨ sgnI p = sgnI q * sgnI d then sgnI q * sgnI d else if sgnI q * sgnI d = 0 then sgnI p else sgnI p * sgnI (p * p - q * q * d)
theorem sgnI_cases (v : Int) : (v < 0 ∧ sgnI v = -1) ∨ (v = 0 ∧ sgnI v = 0) ∨ (0 < v ∧ sgnI v = 1) := by
  unfold sgnI; split
  · omega
  · split <;> omega
theorem rsgn_ge {p q d : Int} (hq : 0 ≤ q) (hd : 0 ≤ d) : 0 ≤ rsgn p q d ↔ 0 ≤ p ∨ p * p ≤ q * q * d := by
  have hpp : p ≠ 0 → 1 ≤ p * p := sq_pos
  have h0 : q = 0 → q * q * d = 0 := by rintro rfl; simp
  have h1 : d = 0 → q * q * d = 0 := by rintro rfl; simp
  unfold rsgn
  generalize p * p = P at *
  generalize q * q * d = Q at *
  rcases sgnI_cases p with ⟨a, a'⟩ | ⟨a, a'⟩ | ⟨a, a'⟩ <;> rcases sgnI_cases q with ⟨b, b'⟩ | ⟨b, b'⟩ | ⟨b, b'⟩ <;> rcases sgnI_cases d with ⟨c, c'⟩ | ⟨c, c'⟩ | ⟨c, c'⟩ <;>
    rcases sgnI_cases (P - Q) with ⟨e, e'⟩ | ⟨e, e'⟩ | ⟨e, e'⟩ <;> simp [a', b', c', e'] <;> omega
theorem rsgn_le {p q d : Int} (hq : q ≤ 0) (hd : 0 ≤ d) : rsgn p q d ≤ 0 ↔ p ≤ 0 ∨ p * p ≤ q * q * d := by
  have hpp : p ≠ 0 → 1 ≤ p * p := sq_pos
  have h0 : q = 0 → q * q * d = 0 := by rintro rfl; simp
  have h1 : d = 0 → q * q * d = 0 := by rintro rfl; simp
  unfold rsgn
  generalize p * p = P at *
  generalize q * q * d = Q at *
  rcases sgnI_cases p with ⟨a, a'⟩ | ⟨a, a'⟩ | ⟨a, a'⟩ <;> rcases sgnI_cases q with ⟨b, b'⟩ | ⟨b, b'⟩ | ⟨b, b'⟩ <;> rcases sgnI_cases d with ⟨c, c'⟩ | ⟨c, c'⟩ | ⟨c, c'⟩ <;>
    rcases sgnI_cases (P - Q) with ⟨e, e'⟩ | ⟨e, e'⟩ | ⟨e, e'⟩ <;> simp [a', b', c', e'] <;> omega

/-- A point seen from a piece: how far along it, how far off it. -/
def armU (e : Ed) (x y : Int) : Int := (x - e.x0) * (e.x1 - e.x0) + (y - e.y0) * (e.y1 - e.y0)
def armK (e : Ed) (x y : Int) : Int := (x - e.x0) * (e.y1 - e.y0) - (y - e.y0) * (e.x1 - e.x0)
/-- A piece covers a point; f, l: it has a square end at its beginning, at its end. -/
def PieceP (e : Ed) (w : Int) (f l : Bool) (x y : Int) : Prop :=
  4 * (armK e x y * armK e x y) ≤ w * w * sqE e ∧ (0 ≤ armU e x y ∨ (f = true ∧ 4 * (armU e x y * armU e x y) ≤ w * w * sqE e)) ∧
    (armU e x y ≤ sqE e ∨ (l = true ∧ 4 * ((armU e x y - sqE e) * (armU e x y - sqE e)) ≤ w * w * sqE e))
/-- A disc, a square round a point. -/
def DiscP (a b w x y : Int) : Prop := 4 * ((x - a) * (x - a) + (y - b) * (y - b)) ≤ w * w
def SquareP (a b w x y : Int) : Prop := max (2 * (x - a)) (-2 * (x - a)) ≤ w ∧ max (2 * (y - b)) (-2 * (y - b)) ≤ w
instance (e : Ed) (w : Int) (f l : Bool) (x y : Int) : Decidable (PieceP e w f l x y) := by unfold PieceP; infer_instance
instance (a b w x y : Int) : Decidable (DiscP a b w x y) := by unfold DiscP; infer_instance
instance (a b w x y : Int) : Decidable (SquareP a b w x y) := by unfold SquareP; infer_instance

/-- What covers points. -/
inductive Shp where
  | pc (e : Ed) (w : Int) (f l : Bool)
  | disc (a b w : Int)
  | sq (a b w : Int)
def covS : Shp → Int → Int → Bool
  | .pc e w f l, x, y => decide (PieceP e w f l x y)
  | .disc a b w, x, y => decide (DiscP a b w x y)
  | .sq a b w, x, y => decide (SquareP a b w x y)

/-- The shapes of the k-th piece. -/
def shAt (shut : Bool) (s : Sy) (ps : List Ed) (k : Nat) (e : Ed) : List Shp :=
  .pc e s.wide (decide (k = 0) && !shut && decide (s.cap = 2)) (decide (k + 1 = ps.length) && !shut && decide (s.cap = 2)) ::
    ((if (decide (k = 0) && !shut && decide (s.cap = 1)) || (!(decide (k = 0) && !shut) && decide (s.join = 1)) then [.disc e.x0 e.y0 s.wide] else []) ++
     (if decide (k + 1 = ps.length) && !shut && decide (s.cap = 1) then [.disc e.x1 e.y1 s.wide] else []))
/-- The shapes of the first k pieces. -/
def shTo (shut : Bool) (s : Sy) (ps : List Ed) : Nat → List Shp
  | 0 => []
  | k + 1 => shTo shut s ps k ++ match ps[k]? with | some e => shAt shut s ps k e | none => []
theorem shTo_succ (shut : Bool) (s : Sy) (ps : List Ed) (k : Nat) (h : k < ps.length) : shTo shut s ps (k + 1) = shTo shut s ps k ++ shAt shut s ps k ps[k] := by
  simp only [shTo, List.getElem?_eq_getElem h]
/-- The shapes of a dot; of a contour; of a path. -/
def dotS (c : Ct) (s : Sy) : List Shp := if s.cap = 1 then [.disc c.x c.y s.wide] else if s.cap = 2 then [.sq c.x c.y s.wide] else []
def shpC (s : Sy) (c : Ct) : List Shp :=
  if (piecesC c).length = 0 then (if 0 < c.es.length ∨ c.shut = true then dotS c s else []) else shTo c.shut s (piecesC c) (piecesC c).length
def shL (l : List Sg) (s : Sy) : List Shp := (ctsL l).flatMap (shpC s)
/-- Is a path without bows? -/
def plainB (l : List Sg) : Bool := l.all (fun s => !(s.kind == 3)) && mayB l
/-- Does a stroke cover a point? -/
def covL (l : List Sg) (s : Sy) (x y : Int) : Bool := (shL l s).any fun h => covS h x y
def inL (l : List Sg) (s : Sy) (x y : Int) : Bool := plainB l && mayS s && co x && co y && covL l s x y

theorem shAt_len (shut : Bool) (s : Sy) (ps : List Ed) (k : Nat) (e : Ed) : 1 ≤ (shAt shut s ps k e).length ∧ (shAt shut s ps k e).length ≤ 3 := by
  unfold shAt
  rw [List.length_cons, List.length_append]
  split <;> split <;> simp
theorem shTo_len (shut : Bool) (s : Sy) (ps : List Ed) : ∀ k, k ≤ ps.length → (shTo shut s ps k).length ≤ 3 * k
  | 0, _ => by simp [shTo]
  | k + 1, h => by
    have := shTo_len shut s ps k (by omega)
    have := (shAt_len shut s ps k ps[k]).2
    rw [shTo_succ shut s ps k h, List.length_append]; omega
theorem dotS_len (c : Ct) (s : Sy) : (dotS c s).length ≤ 1 := by
  unfold dotS; split
  · simp
  · split <;> simp
theorem shC_len (s : Sy) (c : Ct) : (shpC s c).length ≤ 3 * (piecesC c).length + 1 := by
  unfold shpC
  split
  · split
    · have := dotS_len c s; omega
    · simp
  · have := shTo_len c.shut s (piecesC c) (piecesC c).length (Nat.le_refl _); omega
/-- Which points a contour covers, told without lists. -/
theorem mem_shTo (shut : Bool) (s : Sy) (ps : List Ed) (h : Shp) : ∀ k, k ≤ ps.length → (h ∈ shTo shut s ps k ↔ ∃ (i : Nat) (hi : i < ps.length), i < k ∧ h ∈ shAt shut s ps i ps[i])
  | 0, _ => by simp [shTo]
  | k + 1, hk => by
    rw [shTo_succ shut s ps k hk, List.mem_append, mem_shTo shut s ps h k (by omega)]
    constructor
    · rintro (⟨i, hi, hlt, hm⟩ | hm)
      · exact ⟨i, hi, by omega, hm⟩
      · exact ⟨k, hk, by omega, hm⟩
    · rintro ⟨i, hi, hlt, hm⟩
      rcases Nat.lt_or_ge i k with h1 | h1
      · exact .inl ⟨i, hi, h1, hm⟩
      · obtain rfl : i = k := by omega
        exact .inr hm
end Go.Proofs.Ytbpgehaflbacmaa

/- Blocks between two numbers are kept while a row that lies elsewhere is written. -/
namespace Go.Proofs.Ytbpgehaflbacmaa
open Go.RowKit

/-- The blocks from lo up to hi are as they were. -/
def Mid (lo hi : Nat) (w wi : World) : Prop := hi ≤ wi.heap.size ∧ ∀ b, lo ≤ b → b < hi → wi.heap[b]? = w.heap[b]?
/-- A slice's own row lies in none of the blocks from lo up to hi. -/
def Off (lo hi : Nat) (v : Value) : Prop := ∀ k, v.ownBlock = some k → k < lo ∨ hi ≤ k

section
variable {lo hi : Nat} {w wi w' : World} {v v' : Value}
theorem Mid.refl (lo : Nat) (w : World) : Mid lo w.heap.size w w := ⟨Nat.le_refl _, fun _ _ _ => rfl⟩
theorem Mid.bel (h : Mid lo hi w wi) (hb : Below wi.heap.size wi w') : Mid lo hi w w' := ⟨Nat.le_trans h.1 hb.size, fun b h1 h2 => (hb.block b (Nat.lt_of_lt_of_le h2 h.1)).trans (h.2 b h1 h2)⟩
theorem Mid.grown (h : Mid lo hi w wi) (ho : Off lo hi v) (hg : wi.grownBy w' v.ownBlock) : Mid lo hi w w' :=
  ⟨Nat.le_trans h.1 hg.size, fun b h1 h2 => (hg.block b (Nat.lt_of_lt_of_le h2 h.1) (fun e => by have := ho b e.symm; omega)).trans (h.2 b h1 h2)⟩
theorem Off.next (h : Off lo hi v) (hat : v'.ownBlock = v.ownBlock ∨ v'.ownBlock = some wi.heap.size) (hm : hi ≤ wi.heap.size) : Off lo hi v' := by
  intro k hk
  rcases hat with e | e
  · exact h k (e ▸ hk)
  · rw [e] at hk; injection hk with hk; exact .inr (by omega)
theorem Off.nil : Off lo hi (.slice none 0 0) := fun k hk => by simp [Value.ownBlock] at hk
theorem Mid.cell (h : Mid lo hi w wi) {b o : Nat} (h1 : lo ≤ b) (h2 : b < hi) : wi.cell? ⟨b, o, none⟩ = w.cell? ⟨b, o, none⟩ := World.cell?_of_block (a := ⟨b, o, none⟩) (h.2 b h1 h2)
theorem Mid.own {base : Nat} {e : TypeId} {s n : Nat} {xs : List Value} (h : Mid lo w.heap.size w wi) (hl : lo ≤ base) (ho : w.ownsRow base e s v n xs) : wi.ownsRow base e s v n xs := by
  refine ⟨ho.1, ?_⟩
  rcases ho.2 with h0 | ⟨g, cap, cur, hv, hb, hg, rest⟩
  · exact .inl h0
  · exact .inr ⟨g, cap, cur, hv, hb, (h.2 g (by omega) (Array.getElem?_eq_some_iff.1 hg).1).trans hg, rest⟩
/-- A row among the blocks that were there lies in none of those that came later. -/
theorem Off.old {base : Nat} {e : TypeId} {s n : Nat} {xs : List Value} (ho : w.ownsRow base e s v n xs) (hi : Nat) : Off w.heap.size hi v := fun k hk => .inl (ho.lt k hk).2
/-- A box that was laid ahead of an append onto an older row is kept. -/
theorem box_kept {w w3 : World} {cs : Array Value} {t e : TypeId} {o : Obj} {A : Option Addr} {m c B s : Nat} {xs : List Value} (hown : w.ownsRow B e s (.slice A m c) m xs)
    (hg : ((w.alloc (.cells cs t)).alloc o).grownBy w3 (Value.ownBlock (.slice A m c))) (i : Nat) : w3.cell? ⟨w.heap.size, i, none⟩ = cs[i]? := by
  have hmd := ((Mid.refl w.heap.size (w.alloc (.cells cs t))).bel (bal (Below.refl _ _) o)).grown (Off.old hown _) hg
  exact (hmd.cell (Nat.le_refl _) (by simp)).trans (new_cell _ i)
end

end Go.Proofs.Ytbpgehaflbacmaa

/- Contours in memory: a row of contours, each with a row of edges of its own. -/
namespace Go.Proofs.Ytbpgehaflbacmaa
open Go.RowKit

/-- A contour's cells; its edges are a slice value. -/
def cvc (p : Ct × Value) : List Value := [.int .i64 p.1.x, .int .i64 p.1.y, p.2, .bool p.1.shut]
def cvs (ps : List (Ct × Value)) : List Value := ps.flatMap cvc
theorem cvs_len (ps : List (Ct × Value)) : (cvs ps).length = ps.length * 4 := len_flat cvc 4 (fun _ => rfl) ps
theorem cvs_snoc (a : List (Ct × Value)) (p : Ct × Value) : cvs (a ++ [p]) = cvs a ++ cvc p := by simp [cvs]

/-- Each contour owns its edges' row; no two rows are one. -/
def Cvs (w : World) (B : Nat) (E : TypeId) (ps : List (Ct × Value)) : Prop :=
  (∀ p ∈ ps, w.ownsRow B E 7 p.2 p.1.es.length (eds p.1.es)) ∧ ps.Pairwise (fun p q => ∀ k, p.2.ownBlock = some k → q.2.ownBlock ≠ some k)

section
variable {w w' : World} {B : Nat} {E T : TypeId} {ps a : List (Ct × Value)}
theorem Cvs.nil : Cvs w B E [] := ⟨fun p hp => by simp at hp, List.Pairwise.nil⟩
theorem Cvs.below (h : Cvs w B E ps) (hb : Below w.heap.size w w') : Cvs w' B E ps := ⟨fun p hp => own_below (h.1 p hp) hb, h.2⟩
theorem Cvs.mono {B' : Nat} (h : Cvs w B E ps) (hb : B' ≤ B) : Cvs w B' E ps := ⟨fun p hp => own_mono (h.1 p hp) hb, h.2⟩
/-- Two owned rows of different types are two blocks. -/
theorem own_ne {s s' n n' : Nat} {v v' : Value} {xs xs' : List Value} {b b' : Nat} (h : w.ownsRow b E s v n xs) (h' : w.ownsRow b' T s' v' n' xs') (hne : E ≠ T) : v.ownBlock = none ∨ v.ownBlock ≠ v'.ownBlock := by
  rcases h.2 with ⟨rfl, _⟩ | ⟨g, cap, cur, rfl, _, hg, _⟩
  · exact .inl rfl
  · refine .inr fun e => ?_
    rcases h'.2 with ⟨rfl, _⟩ | ⟨g', cap', cur', rfl, _, hg', _⟩
    · simp [Value.ownBlock] at e
    · simp [Value.ownBlock] at e
      subst e
      rw [hg] at hg'
      injection hg' with hg'
      injection hg' with _ ht
      exact hne ht
/-- The contours' own row is written: their edges are kept. -/
theorem Cvs.out (h : Cvs w B E ps) {s n : Nat} {v : Value} {xs : List Value} {b : Nat} (ho : w.ownsRow b T s v n xs) (hne : E ≠ T) (hg : w.grownBy w' v.ownBlock) : Cvs w' B E ps :=
  ⟨fun p hp => (h.1 p hp).kept hg (own_ne (h.1 p hp) ho hne), h.2⟩
/-- A new contour without edges. -/
theorem Cvs.push (h : Cvs w B E ps) (x y : Int) : Cvs w B E (ps ++ [(⟨x, y, [], false⟩, .slice none 0 0)]) := by
  refine ⟨fun p hp => ?_, ?_⟩
  · rw [List.mem_append, List.mem_singleton] at hp
    rcases hp with hp | rfl
    · exact h.1 p hp
    · exact own_nil
  · rw [List.pairwise_append]
    exact ⟨h.2, List.pairwise_singleton _ _, fun p _ q hq k _ => by rw [List.mem_singleton] at hq; subst hq; simp [Value.ownBlock]⟩
/-- The last one's head is turned, its edges are not. -/
theorem Cvs.head {c c' : Ct} {v : Value} (h : Cvs w B E (a ++ [(c, v)])) (he : c'.es = c.es) : Cvs w B E (a ++ [(c', v)]) := by
  refine ⟨fun p hp => ?_, ?_⟩
  · rw [List.mem_append, List.mem_singleton] at hp
    rcases hp with hp | rfl
    · exact h.1 p (by simp [hp])
    · have := h.1 (c, v) (by simp); simp only at this ⊢; rw [he]; exact this
  · have h2 := h.2
    rw [List.pairwise_append] at h2 ⊢
    exact ⟨h2.1, List.pairwise_singleton _ _, fun p hp q hq => by rw [List.mem_singleton] at hq; subst hq; exact h2.2.2 p hp (c, v) (by simp)⟩
/-- The last one's edges grow. -/
theorem Cvs.grow {c c' : Ct} {v v' : Value} (h : Cvs w B E (a ++ [(c, v)])) (hg : w.grownBy w' v.ownBlock) (hat : v'.ownBlock = v.ownBlock ∨ v'.ownBlock = some w.heap.size)
    (hown : w'.ownsRow B E 7 v' c'.es.length (eds c'.es)) : Cvs w' B E (a ++ [(c', v')]) := by
  have h2 := h.2
  rw [List.pairwise_append] at h2
  refine ⟨fun p hp => ?_, ?_⟩
  · rw [List.mem_append, List.mem_singleton] at hp
    rcases hp with hp | rfl
    · have hd := h2.2.2 p hp (c, v) (by simp)
      refine (h.1 p (by simp [hp])).kept hg ?_
      cases hb : p.2.ownBlock with
      | none => exact .inl rfl
      | some k => exact .inr (fun e => hd k hb e.symm)
    · exact hown
  · rw [List.pairwise_append]
    refine ⟨h2.1, List.pairwise_singleton _ _, fun p hp q hq k hk => ?_⟩
    rw [List.mem_singleton] at hq; subst hq
    rcases hat with e | e
    · rw [e]; exact h2.2.2 p hp (c, v) (by simp) k hk
    · rw [e]
      have := ((h.1 p (by simp [hp])).lt k hk).2
      intro e'; injection e' with e'; omega
/-- The k-th contour's cells. -/
theorem Sl.ct {A : Option Addr} {n : Nat} (h : Sl w 4 A n (cvs ps)) (k : Nat) (hk : k < n) (hl : k < ps.length) :
    ∃ b off : Nat, A = some ⟨b, off, none⟩ ∧ b < w.heap.size ∧ w.cell? ⟨b, off + k * 4, none⟩ = some (.int .i64 ps[k].1.x) ∧ w.cell? ⟨b, off + k * 4 + 1, none⟩ = some (.int .i64 ps[k].1.y) ∧
      w.cell? ⟨b, off + k * 4 + 2, none⟩ = some ps[k].2 ∧ w.cell? ⟨b, off + k * 4 + 3, none⟩ = some (.bool ps[k].1.shut) := by
  obtain ⟨b, off, e, hb, hc⟩ := h.2 (by omega)
  have g : ∀ j u, j < 4 → (cvc ps[k])[j]? = some u → w.cell? ⟨b, off + k * 4 + j, none⟩ = some u := fun j u hj hu => by
    rw [Nat.add_assoc]; exact hc _ u (by rw [← hu]; exact get_flat cvc 4 (fun _ => rfl) ps k j hl hj)
  exact ⟨b, off, e, hb, g 0 _ (by omega) rfl, g 1 _ (by omega) rfl, g 2 _ (by omega) rfl, g 3 _ (by omega) rfl⟩
theorem Sl.ctlen {A : Option Addr} {n : Nat} (h : Sl w 4 A n (cvs ps)) : ps.length = n := by
  have := h.1; rw [cvs_len] at this; omega
/-- A store into the last contour. -/
theorem set_last {c c' : Ct} {v v' : Value} {j : Nat} {u : Value} (hj : j < 4) (hs : (cvc (c, v)).set j u = cvc (c', v')) : (cvs (a ++ [(c, v)])).set (a.length * 4 + j) u = cvs (a ++ [(c', v')]) := by
  rw [cvs_snoc, cvs_snoc, List.set_append_right _ _ (by rw [cvs_len]; omega), cvs_len]
  have : a.length * 4 + j - a.length * 4 = j := by omega
  rw [this, hs]
theorem oneCell_cvc (c : Ct) : ∀ u ∈ cvc (c, .slice none 0 0), u.oneCell' = true := by
  intro u hu; simp only [cvc, List.mem_cons, List.not_mem_nil, or_false] at hu; rcases hu with rfl | rfl | rfl | rfl <;> rfl
theorem own_addr {base : Nat} {e : TypeId} {s n c : Nat} {A : Option Addr} {xs : List Value} (h : w.ownsRow base e s (.slice A n c) n xs) (hn : 0 < n) : ∃ g, A = some ⟨g, 0, none⟩ ∧ base ≤ g ∧ g < w.heap.size := by
  rcases h.2 with ⟨_, h0⟩ | ⟨g, cap, cur, hv, hb, hg, _⟩
  · omega
  · simp only [Value.slice.injEq] at hv
    exact ⟨g, hv.1, hb, (Array.getElem?_eq_some_iff.1 hg).1⟩
/-- A slice reads as a list of contours. -/
def CtSl (w : World) (A : Option Addr) (n : Nat) (cs : List Ct) : Prop :=
  ∃ ps : List (Ct × Value), ps.map Prod.fst = cs ∧ Sl w 4 A n (cvs ps) ∧ ∀ p ∈ ps, ∃ Ae ce, p.2 = .slice Ae p.1.es.length ce ∧ Sl w 7 Ae p.1.es.length (eds p.1.es)
theorem CtSl.below {A : Option Addr} {n : Nat} {cs : List Ct} (h : CtSl w A n cs) (hb : Below w.heap.size w w') : CtSl w' A n cs := by
  obtain ⟨ps, h1, h2, h3⟩ := h
  exact ⟨ps, h1, h2.below hb, fun p hp => by obtain ⟨Ae, ce, e, hs⟩ := h3 p hp; exact ⟨Ae, ce, e, hs.below hb⟩⟩
theorem CtSl.drewN {A : Option Addr} {n : Nat} {cs : List Ct} (h : CtSl w A n cs) (q : Nat) : CtSl (w.drewN q) A n cs := h.below (bdrewN (Below.refl _ _) q)
theorem CtSl.of {b b' : Nat} {A : Option Addr} {c : Nat} (h : w.ownsRow b T 4 (.slice A ps.length c) ps.length (cvs ps)) (hc : Cvs w b' E ps) : CtSl w A ps.length (ps.map Prod.fst) :=
  ⟨ps, rfl, own_sl h, fun p hp => by
    have := hc.1 p hp
    obtain ⟨Ae, ce, e⟩ := own_form this
    rw [e] at this
    exact ⟨Ae, ce, e, own_sl this⟩⟩
theorem CtSl.len {A : Option Addr} {n : Nat} {cs : List Ct} (h : CtSl w A n cs) : cs.length = n := by
  obtain ⟨ps, rfl, h2, _⟩ := h
  rw [List.length_map]; exact h2.ctlen
theorem CtSl.get {A : Option Addr} {n : Nat} {cs : List Ct} (h : CtSl w A n cs) (k : Nat) (hk : k < n) (hl : k < cs.length) :
    ∃ (b off : Nat) (Ae : Option Addr) (ce : Nat), A = some ⟨b, off, none⟩ ∧ b < w.heap.size ∧ w.cell? ⟨b, off + k * 4, none⟩ = some (.int .i64 cs[k].x) ∧ w.cell? ⟨b, off + k * 4 + 1, none⟩ = some (.int .i64 cs[k].y) ∧
      w.cell? ⟨b, off + k * 4 + 2, none⟩ = some (.slice Ae cs[k].es.length ce) ∧ w.cell? ⟨b, off + k * 4 + 3, none⟩ = some (.bool cs[k].shut) ∧ Sl w 7 Ae cs[k].es.length (eds cs[k].es) := by
  obtain ⟨ps, rfl, h2, h3⟩ := h
  have hl' : k < ps.length := by simpa using hl
  obtain ⟨b, off, e, hb, c0, c1, c2, c3⟩ := h2.ct k hk hl'
  obtain ⟨Ae, ce, ev, hs⟩ := h3 ps[k] (List.getElem_mem hl')
  rw [ev] at c2
  have hm : (ps.map Prod.fst)[k] = ps[k].1 := by simp
  rw [hm]
  exact ⟨b, off, Ae, ce, e, hb, c0, c1, c2, c3, hs⟩
theorem map_snoc {c : Ct} {v : Value} : (a ++ [(c, v)]).map Prod.fst = a.map Prod.fst ++ [c] := by simp
theorem map_modLast (f : Ct → Ct) (a : List Ct) (c : Ct) : modLast f (a ++ [c]) = a ++ [f c] := modLast_snoc f a c
end

end Go.Proofs.Ytbpgehaflbacmaa

/- The plain side of Cut's loops. -/
namespace Go.Proofs.Ytbpgehaflbacmaa

/-- An odd row twice. -/
def evenR (on : List Int) : List Int := if on.length % 2 = 1 then on ++ on else on
theorem evenR_row {on : List Int} (h : Row on) : Row (evenR on) := by unfold evenR; split; exact h.dbl; exact h
theorem evenR_even (on : List Int) : (evenR on).length % 2 = 0 := by
  unfold evenR; split
  · rw [List.length_append]; omega
  · omega
theorem evenR_len (on : List Int) : (evenR on).length ≤ 2 * on.length := by
  unfold evenR; split
  · rw [List.length_append]; omega
  · omega
theorem evenR_dash {on : List Int} (h : Row on) (f : Int) (ps : List Ed) : dashW (evenR on) f ps = dashW on f ps := by
  unfold evenR; split
  · exact dashW_dbl h f ps
  · rfl
theorem evenR_red {on : List Int} (h : Row on) (f : Int) (ps : List Ed) : dashW (evenR on) (redF (evenR on).sum f) ps = dashW on f ps := by
  rw [dashW_red (evenR_row h) (evenR_even on), evenR_dash h]
theorem row_sum {on : List Int} (h : Row on) : on.sum ≤ 32767 * on.length := by
  have : ∀ l : List Int, (∀ v ∈ l, v ≤ 32767) → l.sum ≤ 32767 * l.length := by
    intro l
    induction l with
    | nil => simp
    | cons a l ih => intro h; have := ih (fun v hv => h v (by simp [hv])); have := h a (by simp); rw [List.sum_cons, List.length_cons]; omega
  exact this on h.most
theorem flat_take {α β : Type} (F : α → List β) (l : List α) (k : Nat) (h : k < l.length) : (l.take (k + 1)).flatMap F = (l.take k).flatMap F ++ F l[k] := by
  rw [List.take_succ_eq_append_getElem h, List.flatMap_append]; simp
theorem flat_le {α β : Type} (F : α → List β) (l : List α) (k : Nat) (h : k < l.length) : ((l.take k).flatMap F).length + (F l[k]).length ≤ (l.flatMap F).length := by
  have h1 := flat_take F l k h
  have h2 : l.flatMap F = (l.take (k + 1)).flatMap F ++ (l.drop (k + 1)).flatMap F := by rw [← List.flatMap_append, List.take_append_drop]
  rw [h2, h1, List.length_append, List.length_append]; omega
theorem cutL_over {on : List Int} {f : Int} {l : List Sg} {k j : Nat} {c : Ct} (hne : on ≠ []) (hr : Row on) (hc : (ctsL l)[k]? = some c)
    (h : 300 < (((ctsL l).take k).flatMap (dashC on f) ++ dashTo (evenR on) (redF (evenR on).sum f) (piecesC c) j).length) : cutL on f l = ([], 5) := by
  obtain ⟨hk, hc⟩ := List.getElem?_eq_some_iff.1 hc
  have h1 := dashTo_le (evenR_row hr) (redF (evenR on).sum f) (piecesC c) j
  rw [evenR_red hr] at h1
  have h2 := flat_le (dashC on f) (ctsL l) k hk
  rw [hc] at h2
  have h3 : dashC on f c = dashW on f (piecesC c) := rfl
  rw [h3] at h2
  rw [List.length_append] at h
  unfold cutL
  rw [if_neg hne, if_pos]
  unfold dashL; omega
theorem cutL_all {on : List Int} {f : Int} {l : List Sg} (hne : on ≠ []) (h : (dashL on f l).length ≤ 300) : cutL on f l = (dashL on f l, 0) := by
  unfold cutL; rw [if_neg hne, if_neg (by omega)]
theorem cutL_nil (f : Int) (l : List Sg) : cutL [] f l = (l, 0) := rfl
theorem dashAt_len (on : List Int) (f : Int) (ps : List Ed) (j : Nat) : (dashAt on f ps j).length ≤ ps.length + 2 := by
  unfold dashAt; split
  · exact partW_len _ _ _
  · simp
/-- A path without bows has straight edges alone. -/
theorem cts_straight : ∀ (l : List Sg) (st : List Ct × Int × Int), (∀ s ∈ l, s.kind ≠ 3) → (∀ c ∈ st.1, ∀ e ∈ c.es, e.bent = false) → ∀ c ∈ (l.foldl ctStep st).1, ∀ e ∈ c.es, e.bent = false
  | [], _, _, h => h
  | s :: l, st, hk, h => by
    rw [List.foldl_cons]
    refine cts_straight l _ (fun t ht => hk t (by simp [ht])) ?_
    intro c hc
    unfold ctStep at hc
    split at hc
    · rw [List.mem_append, List.mem_singleton] at hc
      rcases hc with hc | rfl
      · exact h c hc
      · intro e he; simp at he
    · split at hc
      · rcases mem_modLast _ _ _ hc with hc | ⟨d, hd, rfl⟩
        · exact h c hc
        · exact h d hd
      · rcases mem_modLast _ _ _ hc with hc | ⟨d, hd, rfl⟩
        · exact h c hc
        · intro e he
          simp only [List.mem_append, List.mem_singleton] at he
          rcases he with he | rfl
          · exact h d hd e he
          · simpa using hk s (by simp)
theorem ctsL_straight {l : List Sg} (h : ∀ s ∈ l, s.kind ≠ 3) : ∀ c ∈ ctsL l, ∀ e ∈ c.es, e.bent = false := by
  unfold ctsL; split
  · intro c hc; simp at hc
  · exact cts_straight l _ h (fun c hc => by simp at hc)

end Go.Proofs.Ytbpgehaflbacmaa

/- The plain side of a level piece's dashes. -/
namespace Go.Proofs.Ytbpgehaflbacmaa

def levelL (n : Int) : List Sg := [⟨1, 0, 0, 0, 0⟩, ⟨2, n, 0, 0, 0⟩]
def levelE (n : Int) : Ed := ⟨0, 0, false, 0, 0, n, 0⟩
/-- The part from a to b of a level piece. -/
def lvlP (a b : Int) : List Sg := [⟨1, a, 0, 0, 0⟩, ⟨2, b, 0, 0, 0⟩]
def lvlAt (on : List Int) (f n : Int) (j : Nat) : List Sg :=
  if j % 2 = 0 ∧ pre on j - f < n ∧ (0 < pre on (j + 1) - f ∨ (pre on (j + 1) - f = 0 ∧ pre on j - f = 0)) then lvlP (max (pre on j - f) 0) (min (pre on (j + 1) - f) n) else []
def lvlTo (on : List Int) (f n : Int) (k : Nat) : List Sg := (List.range k).flatMap (lvlAt on f n)
def lvl (on : List Int) (f n : Int) : List Sg := lvlTo on f n (bnd on f n)

section
variable {n : Int}
theorem level_may (h0 : 0 ≤ n) (h1 : n ≤ 8191) : mayB (levelL n) = true := by
  have hc : co n = true := by simp [co]; omega
  simp [mayB, levelL, mayFrom, rightB, nearB, hc, show co 0 = true by decide]
theorem level_cts (h0 : 0 ≤ n) (h1 : n ≤ 8191) : ctsL (levelL n) = [⟨0, 0, [levelE n], false⟩] := by
  rw [ctsL_may (level_may h0 h1)]; rfl
theorem level_len (h0 : 0 ≤ n) (h1 : n ≤ 8191) : lenE (levelE n) = n := by
  unfold lenE sqE levelE
  simp only [Int.sub_zero]
  have h3 := sq_le (a := n) (b := 8191) h0 h1
  have e : (n + 1) * (n + 1) = n * n + 2 * n + 1 := by grind
  exact flr_eq h0 (by omega) (by omega) (by omega)
theorem level_ok (h0 : 0 ≤ n) (h1 : n ≤ 8191) : edOK (levelE n) = true := edOK_mk (by omega) (by omega) (by omega) (by omega) (by omega) (by omega) (.inr ⟨rfl, rfl⟩)
theorem level_moved (h0 : 1 ≤ n) : moved (levelE n) = true := by
  unfold moved levelE; simp; omega
theorem level_pieces (h0 : 1 ≤ n) : piecesC ⟨0, 0, [levelE n], false⟩ = [levelE n] := by
  unfold piecesC; simp [level_moved h0]
theorem level_sum (h0 : 0 ≤ n) (h1 : n ≤ 8191) : sumL [levelE n] = n := by simp only [sumL, level_len h0 h1]; omega
theorem level_at (h0 : 1 ≤ n) (h1 : n ≤ 8191) {k : Int} (hk1 : k ≤ n) : atW [levelE n] k = (k, 0) := by
  have hl := level_len (n := n) (by omega) h1
  unfold atW
  rw [hl, if_pos hk1]
  unfold atE
  rw [hl]
  have e1 : (levelE n).x0 * n + ((levelE n).x1 - (levelE n).x0) * k = k * n := by simp only [levelE]; grind
  have e2 : (levelE n).y0 * n + ((levelE n).y1 - (levelE n).y0) * k = 0 * n := by simp only [levelE]; grind
  rw [e1, e2, rnd_exact _ _ (by omega), rnd_exact _ _ (by omega)]
theorem level_part (h0 : 1 ≤ n) (h1 : n ≤ 8191) {a b : Int} (ha : a ≤ n) (hb : b ≤ n) : partW [levelE n] a b = lvlP a b := by
  unfold partW
  rw [level_at h0 h1 ha, level_at h0 h1 hb]
  have : innW [levelE n] a b = [] := by
    unfold innW innF innF innE
    rw [level_len (by omega) h1, if_neg (by omega)]; rfl
  rw [this]; rfl
theorem level_dashAt (h0 : 1 ≤ n) (h1 : n ≤ 8191) (on : List Int) (f : Int) (j : Nat) : dashAt on f [levelE n] j = lvlAt on f n j := by
  unfold dashAt lvlAt
  rw [level_sum (by omega) h1]
  by_cases h : j % 2 = 0 ∧ pre on j - f < n ∧ (0 < pre on (j + 1) - f ∨ (pre on (j + 1) - f = 0 ∧ pre on j - f = 0))
  · rw [if_pos h, if_pos ⟨h.1, by omega, h.2⟩, level_part h0 h1 (by omega) (by omega)]
  · rw [if_neg h, if_neg (fun hh => h ⟨hh.1, hh.2.2⟩)]
theorem dashL_level (h0 : 1 ≤ n) (h1 : n ≤ 8191) (on : List Int) (f : Int) : dashL on f (levelL n) = lvl on f n := by
  unfold dashL
  rw [level_cts (by omega) h1]
  simp only [List.flatMap_cons, List.flatMap_nil, List.append_nil]
  unfold dashC dashW dashTo lvl lvlTo
  rw [level_pieces h0, level_sum (by omega) h1]
  congr 1
  funext j
  exact level_dashAt h0 h1 on f j
theorem cutL_level (h0 : 1 ≤ n) (h1 : n ≤ 8191) {on : List Int} (hne : on ≠ []) (f : Int) : cutL on f (levelL n) = if 300 < (lvl on f n).length then ([], 5) else (lvl on f n, 0) := by
  unfold cutL; rw [if_neg hne, dashL_level h0 h1]
end

theorem known_1 : cutL [4, 2] 0 (levelL 10) = ([⟨1, 0, 0, 0, 0⟩, ⟨2, 4, 0, 0, 0⟩, ⟨1, 6, 0, 0, 0⟩, ⟨2, 10, 0, 0, 0⟩], 0) := by
  rw [cutL_level (by omega) (by omega) (by simp)]; decide +kernel
theorem known_2 : cutL [4, 2] 4 (levelL 10) = ([⟨1, 2, 0, 0, 0⟩, ⟨2, 6, 0, 0, 0⟩, ⟨1, 8, 0, 0, 0⟩, ⟨2, 10, 0, 0, 0⟩], 0) := by
  rw [cutL_level (by omega) (by omega) (by simp)]; decide +kernel
theorem known_3 : cutL [0, 3] 0 (levelL 5) = ([⟨1, 0, 0, 0, 0⟩, ⟨2, 0, 0, 0, 0⟩, ⟨1, 3, 0, 0, 0⟩, ⟨2, 3, 0, 0, 0⟩], 0) := by
  rw [cutL_level (by omega) (by omega) (by simp)]; decide +kernel

end Go.Proofs.Ytbpgehaflbacmaa

/- The plain law of DashSquare. -/
namespace Go.Proofs.Ytbpgehaflbacmaa

section
variable {u v n : Int}
def squareL (u v n : Int) : List Sg := [⟨1, u, v, 0, 0⟩, ⟨2, u + n, v, 0, 0⟩, ⟨2, u + n, v + n, 0, 0⟩, ⟨2, u, v + n, 0, 0⟩, ⟨4, 0, 0, 0, 0⟩]
def sqE1 (u v n : Int) : Ed := ⟨u, v, false, 0, 0, u + n, v⟩
def sqE2 (u v n : Int) : Ed := ⟨u + n, v, false, 0, 0, u + n, v + n⟩
def sqE3 (u v n : Int) : Ed := ⟨u + n, v + n, false, 0, 0, u, v + n⟩
def sqE4 (u v n : Int) : Ed := ⟨u, v + n, false, 0, 0, u, v⟩
def sqPs (u v n : Int) : List Ed := [sqE1 u v n, sqE2 u v n, sqE3 u v n, sqE4 u v n]
def sqW (u v n : Int) (k : Nat) : List Sg :=
  if k % 2 = 1 then [⟨1, u + n, v, 0, 0⟩, ⟨2, u + n, v + n, 0, 0⟩, ⟨1, u, v + n, 0, 0⟩, ⟨2, u, v, 0, 0⟩] else [⟨1, u, v, 0, 0⟩, ⟨2, u + n, v, 0, 0⟩, ⟨1, u + n, v + n, 0, 0⟩, ⟨2, u, v + n, 0, 0⟩]

theorem sq_len {e : Ed} (h : sqE e = n * n) (h0 : 0 ≤ n) (h1 : n ≤ 8191) : lenE e = n := by
  unfold lenE
  rw [h]
  have h3 := sq_le (a := n) (b := 8191) h0 h1
  have e : (n + 1) * (n + 1) = n * n + 2 * n + 1 := by grind
  exact flr_eq h0 (by omega) (by omega) (by omega)
theorem sq_lens (h0 : 1 ≤ n) (h1 : n ≤ 8191) : lenE (sqE1 u v n) = n ∧ lenE (sqE2 u v n) = n ∧ lenE (sqE3 u v n) = n ∧ lenE (sqE4 u v n) = n :=
  ⟨sq_len (by simp only [sqE, sqE1]; grind) (by omega) h1, sq_len (by simp only [sqE, sqE2]; grind) (by omega) h1, sq_len (by simp only [sqE, sqE3]; grind) (by omega) h1, sq_len (by simp only [sqE, sqE4]; grind) (by omega) h1⟩
theorem sq_may (hu : -400 ≤ u ∧ u ≤ 400) (hv : -400 ≤ v ∧ v ≤ 400) (hn : 1 ≤ n ∧ n ≤ 500) : mayB (squareL u v n) = true := by
  have a : co u = true := by simp [co]; omega
  have b : co v = true := by simp [co]; omega
  have c : co (u + n) = true := by simp [co]; omega
  have d : co (v + n) = true := by simp [co]; omega
  simp [mayB, squareL, mayFrom, rightB, nearB, a, b, c, d, show co 0 = true by decide]
theorem sq_cts (hu : -400 ≤ u ∧ u ≤ 400) (hv : -400 ≤ v ∧ v ≤ 400) (hn : 1 ≤ n ∧ n ≤ 500) : ctsL (squareL u v n) = [⟨u, v, [sqE1 u v n, sqE2 u v n, sqE3 u v n], true⟩] := by
  rw [ctsL_may (sq_may hu hv hn)]; rfl
theorem sq_pieces (hn : 1 ≤ n) : piecesC ⟨u, v, [sqE1 u v n, sqE2 u v n, sqE3 u v n], true⟩ = sqPs u v n := by
  have m1 : moved (sqE1 u v n) = true := by simp [moved, sqE1]; omega
  have m2 : moved (sqE2 u v n) = true := by simp [moved, sqE2]; omega
  have m3 : moved (sqE3 u v n) = true := by simp [moved, sqE3]; omega
  have hb : backE ⟨u, v, [sqE1 u v n, sqE2 u v n, sqE3 u v n], true⟩ = sqE4 u v n := rfl
  have m4 : moved (sqE4 u v n) = true := by simp [moved, sqE4]; omega
  unfold piecesC
  rw [hb]
  simp [m1, m2, m3, m4, sqPs]
theorem sq_sum (hn : 1 ≤ n) (h1 : n ≤ 8191) : sumL (sqPs u v n) = 4 * n := by
  obtain ⟨a, b, c, d⟩ := sq_lens (u := u) (v := v) hn h1
  simp only [sumL, sqPs, a, b, c, d]; omega
/-- A piece's beginning and end. -/
theorem atE_ends {e : Ed} (h : 1 ≤ lenE e) : atE e 0 = (e.x0, e.y0) ∧ atE e (lenE e) = (e.x1, e.y1) := by
  unfold atE
  have e1 : e.x0 * lenE e + (e.x1 - e.x0) * 0 = e.x0 * lenE e := by grind
  have e2 : e.y0 * lenE e + (e.y1 - e.y0) * 0 = e.y0 * lenE e := by grind
  have e3 : e.x0 * lenE e + (e.x1 - e.x0) * lenE e = e.x1 * lenE e := by grind
  have e4 : e.y0 * lenE e + (e.y1 - e.y0) * lenE e = e.y1 * lenE e := by grind
  rw [e1, e2, e3, e4, rnd_exact _ _ (by omega), rnd_exact _ _ (by omega), rnd_exact _ _ (by omega), rnd_exact _ _ (by omega)]
  exact ⟨rfl, rfl⟩
/-- The corners. -/
theorem sq_at (hn : 1 ≤ n) (h1 : n ≤ 8191) : atW (sqPs u v n) 0 = (u, v) ∧ atW (sqPs u v n) n = (u + n, v) ∧ atW (sqPs u v n) (2 * n) = (u + n, v + n) ∧ atW (sqPs u v n) (3 * n) = (u, v + n) ∧ atW (sqPs u v n) (4 * n) = (u, v) := by
  obtain ⟨a, b, c, d⟩ := sq_lens (u := u) (v := v) hn h1
  have a1 := atE_ends (e := sqE1 u v n) (by omega)
  have b1 := (atE_ends (e := sqE2 u v n) (by omega)).2
  have c1 := (atE_ends (e := sqE3 u v n) (by omega)).2
  have d1 := (atE_ends (e := sqE4 u v n) (by omega)).2
  rw [a] at a1
  rw [b] at b1
  rw [c] at c1
  rw [d] at d1
  unfold sqPs
  refine ⟨?_, ?_, ?_, ?_, ?_⟩
  · rw [atW, a, if_pos (by omega), a1.1]; rfl
  · rw [atW, a, if_pos (by omega), a1.2]; rfl
  · rw [atW, a, if_neg (by omega), atW, b, if_pos (by omega), show 2 * n - n = n by omega, b1]; rfl
  · rw [atW, a, if_neg (by omega), atW, b, if_neg (by omega), atW, c, if_pos (by omega), show 3 * n - n - n = n by omega, c1]; rfl
  · rw [atW, a, if_neg (by omega), atW, b, if_neg (by omega), atW, c, if_neg (by omega), atW, d, if_pos (by omega), show 4 * n - n - n - n = n by omega, d1]; rfl
theorem sq_part (hn : 1 ≤ n) (h1 : n ≤ 8191) (i : Int) (hi : 0 ≤ i ∧ i ≤ 3) : innW (sqPs u v n) (i * n) ((i + 1) * n) = [] := by
  obtain ⟨a, b, c, d⟩ := sq_lens (u := u) (v := v) hn h1
  have hc : i = 0 ∨ i = 1 ∨ i = 2 ∨ i = 3 := by omega
  unfold innW sqPs
  simp only [innF, a, b, c, d, innE]
  rcases hc with rfl | rfl | rfl | rfl <;>
    (rw [if_neg (by omega), if_neg (by omega), if_neg (by omega), if_neg (by omega)]; rfl)
theorem pre_one (n : Int) : ∀ j, pre [n] j = j * n
  | 0 => by simp [pre]
  | j + 1 => by
    have := pre_one n j
    simp only [pre, this, List.length_singleton, Nat.mod_one, List.getD_cons_zero]; grind
theorem pre_two (n : Int) (j : Nat) : pre [n, n] j = j * n := by
  rw [← pre_one n j]; exact pre_dbl [n] j
/-- One dash. -/
theorem sq_dash {on : List Int} (hp : ∀ j, pre on j = j * n) (hn : 1 ≤ n) (h1 : n ≤ 8191) (k j : Nat) :
    dashAt on (k * n) (sqPs u v n) j = if j % 2 = 0 ∧ k ≤ j ∧ j < k + 4 then ⟨1, (atW (sqPs u v n) ((j - k : Int) * n)).1, (atW (sqPs u v n) ((j - k : Int) * n)).2, 0, 0⟩ :: [⟨2, (atW (sqPs u v n) ((j - k + 1 : Int) * n)).1, (atW (sqPs u v n) ((j - k + 1 : Int) * n)).2, 0, 0⟩] else [] := by
  unfold dashAt
  rw [sq_sum hn h1, hp, hp]
  have e1 : (j : Int) * n - k * n = (j - k) * n := by grind
  have e2 : ((j + 1 : Nat) : Int) * n - k * n = (j - k + 1) * n := by grind
  rw [e1, e2]
  have hmul : ∀ a b : Int, a ≤ b → a * n ≤ b * n := fun a b h => Int.mul_le_mul_of_nonneg_right h (by omega)
  by_cases h : j % 2 = 0 ∧ k ≤ j ∧ j < k + 4
  · have a1 := hmul ((j : Int) - k) 3 (by omega)
    have a2 := hmul 1 ((j : Int) - k + 1) (by omega)
    have a3 := hmul 0 ((j : Int) - k) (by omega)
    have a4 := hmul ((j : Int) - k + 1) 4 (by omega)
    rw [if_pos h, if_pos ⟨h.1, by omega, by omega, .inl (by omega)⟩]
    have m1 : max (((j : Int) - k) * n) 0 = ((j : Int) - k) * n := by omega
    have m2 : min (((j : Int) - k + 1) * n) (4 * n) = ((j : Int) - k + 1) * n := by omega
    rw [m1, m2]
    unfold partW
    rw [sq_part hn h1 _ (by omega)]; rfl
  · rw [if_neg h, if_neg]
    rintro ⟨h2, _, h3, h4⟩
    refine h ⟨h2, ?_, ?_⟩
    · apply Decidable.byContradiction; intro hk
      have := hmul ((j : Int) - k + 1) 0 (by omega)
      have := hmul ((j : Int) - k) (-1) (by omega)
      omega
    · apply Decidable.byContradiction; intro hk
      have := hmul 4 ((j : Int) - k) (by omega)
      omega
theorem sq_row1 (hn : 1 ≤ n) (h1 : n ≤ 8191) : Row [n] := ⟨by simp; omega, by simp; omega, by simp; omega⟩
theorem sq_row2 (hn : 1 ≤ n) (h1 : n ≤ 8191) : Row [n, n] := ⟨by simp; omega, by simp; omega, by simp; omega⟩
theorem sq_cut {on : List Int} (hr : Row on) (hp : ∀ j, pre on j = j * n) (hu : -400 ≤ u ∧ u ≤ 400) (hv : -400 ≤ v ∧ v ≤ 400) (hn : 1 ≤ n ∧ n ≤ 500) (k : Nat) (hk : k < 6) : cutL on (k * n) (squareL u v n) = (sqW u v n k, 0) := by
  have hd : dashL on (k * n) (squareL u v n) = sqW u v n k := by
    unfold dashL
    rw [sq_cts hu hv hn]
    simp only [List.flatMap_cons, List.flatMap_nil, List.append_nil]
    unfold dashC
    rw [sq_pieces hn.1, ← dashTo_all hr (k := k + 4) (by rw [sq_sum hn.1 (by omega), hp]; have e : (((k + 4 : Nat) : Int)) * n = k * n + 4 * n := by grind
                                                         omega)]
    unfold dashTo
    have hf : dashAt on (k * n) (sqPs u v n) = _ := funext fun j => sq_dash hp hn.1 (by omega) k j
    rw [hf]
    obtain ⟨p0, p1, p2, p3, p4⟩ := sq_at (u := u) (v := v) hn.1 (show n ≤ 8191 by omega)
    have hc : k = 0 ∨ k = 1 ∨ k = 2 ∨ k = 3 ∨ k = 4 ∨ k = 5 := by omega
    rcases hc with rfl | rfl | rfl | rfl | rfl | rfl <;>
      simp [List.range_succ, sqW, p0, p1, p2, p3, p4]
  rw [cutL_all hr.ne (by rw [hd]; unfold sqW; split <;> simp), hd]
end

end Go.Proofs.Ytbpgehaflbacmaa

/- The plain side of paths by numbers: valid, small, few. -/
namespace Go.Proofs.Ytbpgehaflbacmaa

/-- A piece's numbers lie on a small page or a little beyond. -/
def smallSg (s : Sg) : Prop := (-32 ≤ s.x ∧ s.x < 288) ∧ (-32 ≤ s.y ∧ s.y < 288) ∧ (-32 ≤ s.cx ∧ s.cx < 288) ∧ (-32 ≤ s.cy ∧ s.cy < 288)
/-- A piece may be behind one of some kind, is small, and no bow where none is wanted. -/
def Okd (s : Sg) (last : Int) (bows : Bool) : Prop := rightB s last = true ∧ smallSg s ∧ (bows = false → s.kind ≠ 3)
/-- What a path by numbers is. -/
def MadeOK (l : List Sg) (bows : Bool) : Prop := mayFrom 0 l = true ∧ l.length ≤ 12 ∧ (∀ s ∈ l, smallSg s) ∧ (bows = false → ∀ s ∈ l, s.kind ≠ 3)

theorem mayFrom_snoc (a : Int) (l : List Sg) (s : Sg) : mayFrom a (l ++ [s]) = (mayFrom a l && rightB s ((l.getLast?.map Sg.kind).getD a)) := by
  induction l generalizing a with
  | nil => simp [mayFrom]
  | cons b l ih =>
    rw [List.cons_append, mayFrom, mayFrom, ih, Bool.and_assoc]
    cases l with
    | nil => simp
    | cons c l =>
      obtain ⟨z, hz⟩ : ∃ z, (c :: l).getLast? = some z := ⟨_, List.getLast?_eq_some_getLast (by simp)⟩
      simp only [List.getLast?_cons_cons, hz, Option.map_some, Option.getD_some]
theorem MadeOK.nil (bows : Bool) : MadeOK [] bows := ⟨rfl, by simp, fun s hs => by simp at hs, fun _ s hs => by simp at hs⟩
theorem MadeOK.snoc {l : List Sg} {s : Sg} {bows : Bool} (h : MadeOK l bows) (hl : l.length < 12) (hs : Okd s (lastK l) bows) : MadeOK (l ++ [s]) bows := by
  obtain ⟨h1, h2, h3, h4⟩ := h
  refine ⟨?_, by simp; omega, fun t ht => ?_, fun hb t ht => ?_⟩
  · rw [mayFrom_snoc, h1, show (l.getLast?.map Sg.kind).getD 0 = lastK l from rfl, hs.1]; rfl
  · rw [List.mem_append, List.mem_singleton] at ht
    rcases ht with ht | rfl
    · exact h3 t ht
    · exact hs.2.1
  · rw [List.mem_append, List.mem_singleton] at ht
    rcases ht with ht | rfl
    · exact h4 hb t ht
    · exact hs.2.2 hb
theorem MadeOK.may {l : List Sg} {bows : Bool} (h : MadeOK l bows) : mayB l = true := by
  have := h.2.1
  simp [mayB, h.1]; omega

theorem z0 : (-32 : Int) ≤ 0 ∧ (0 : Int) < 288 := by decide
theorem co_small {v : Int} (h : -32 ≤ v ∧ v < 288) : co v = true := by simp [co]; omega
theorem okd_move {a b last : Int} {bows : Bool} (ha : -32 ≤ a ∧ a < 288) (hb : -32 ≤ b ∧ b < 288) (hl : last ≠ 1) : Okd ⟨1, a, b, 0, 0⟩ last bows :=
  ⟨rightB_iff.2 ⟨by simp [pieceB, co_small ha, co_small hb], .inl ⟨rfl, hl⟩⟩, ⟨ha, hb, z0, z0⟩, fun _ => by simp⟩
theorem okd_line {a b last : Int} {bows : Bool} (ha : -32 ≤ a ∧ a < 288) (hb : -32 ≤ b ∧ b < 288) (hl : last ≠ 0 ∧ last ≠ 4) : Okd ⟨2, a, b, 0, 0⟩ last bows :=
  ⟨rightB_iff.2 ⟨by simp [pieceB, co_small ha, co_small hb], .inr ⟨by simp, hl⟩⟩, ⟨ha, hb, z0, z0⟩, fun _ => by simp⟩
theorem okd_close {last : Int} {bows : Bool} (hl : last ≠ 0 ∧ last ≠ 4) : Okd ⟨4, 0, 0, 0, 0⟩ last bows :=
  ⟨rightB_iff.2 ⟨by decide, .inr ⟨by simp, hl⟩⟩, ⟨z0, z0, z0, z0⟩, fun _ => by simp⟩
theorem okd_bow {a b c d last : Int} (ha : -32 ≤ a ∧ a < 288) (hb : -32 ≤ b ∧ b < 288) (hc : -32 ≤ c ∧ c < 288) (hd : -32 ≤ d ∧ d < 288) (hl : last ≠ 0 ∧ last ≠ 4) : Okd ⟨3, a, b, c, d⟩ last true :=
  ⟨rightB_iff.2 ⟨by simp [pieceB, co_small ha, co_small hb, co_small hc, co_small hd], .inr ⟨by simp, hl⟩⟩, ⟨ha, hb, hc, hd⟩, fun h => by cases h⟩
theorem lastK_get (l : List Sg) (h : l.length - 1 < l.length) : lastK l = l[l.length - 1].kind := by
  unfold lastK
  rw [List.getLast?_eq_getElem?, List.getElem?_eq_getElem h]; rfl

end Go.Proofs.Ytbpgehaflbacmaa

/- The plain law of DashNone. -/
namespace Go.Proofs.Ytbpgehaflbacmaa

def lnE (e : Ed) : Sg := ⟨2, e.x1, e.y1, 0, 0⟩
/-- A contour as an open one, its pieces alone. -/
def noneC (c : Ct) : List Sg := if (piecesC c).length = 0 then [] else ⟨1, c.x, c.y, 0, 0⟩ :: (piecesC c).map lnE
def noneL (l : List Sg) : List Sg := (ctsL l).flatMap noneC

theorem filter_start : ∀ (es : List Ed) (x y : Int), chain x y es → (es.filter moved = [] ∧ endX x es = x ∧ endY y es = y) ∨ (∃ e r, es.filter moved = e :: r ∧ e.x0 = x ∧ e.y0 = y)
  | [], x, y, _ => .inl ⟨rfl, rfl, rfl⟩
  | e :: es, x, y, h => by
    obtain ⟨hx, hy, hc⟩ : e.x0 = x ∧ e.y0 = y ∧ chain e.x1 e.y1 es := h
    cases hm : moved e
    · simp only [moved, Bool.or_eq_false_iff, Bool.not_eq_false', beq_iff_eq] at hm
      have h1 : e.x1 = x := by omega
      have h2 : e.y1 = y := by omega
      rw [h1, h2] at hc
      have hm' : moved e = false := by simp [moved]; omega
      rw [endX_cons, endY_cons, h1, h2, List.filter_cons, hm']
      simpa using filter_start es x y hc
    · right
      exact ⟨e, es.filter moved, by simp [hm], hx, hy⟩
theorem pieces_start {c : Ct} (h : GoodC c) : piecesC c = [] ∨ ∃ e r, piecesC c = e :: r ∧ e.x0 = c.x ∧ e.y0 = c.y := by
  unfold piecesC
  rcases filter_start c.es c.x c.y h.1 with ⟨h1, h2, h3⟩ | ⟨e, r, h1, h2, h3⟩
  · left
    have hb : moved (backE c) = false := by simp [moved, backE, h2, h3]
    rw [h1, hb]; simp
  · right
    exact ⟨e, r ++ _, by rw [h1, List.cons_append], h2, h3⟩
theorem innF_all : ∀ (l : List Ed) (e : Ed) (t a : Int), (∀ d ∈ e :: l, 1 ≤ lenE d) → a ≤ t → innF t (e :: l) a (t + sumL (e :: l)) ++ [lnE ((e :: l).getLast (by simp))] = (e :: l).map lnE
  | [], e, t, a, h, ha => by
    have : innE (t + lenE e) e a (t + sumL [e]) = [] := by unfold innE; rw [if_neg (by simp only [sumL]; omega)]
    simp [innF, this]
  | d :: l, e, t, a, h, ha => by
    have he := h e (by simp)
    have hd := h d (by simp)
    have hn := sumL_nonneg l
    have ih := innF_all l d (t + lenE e) a (fun x hx => h x (by simp [hx])) (by omega)
    have hs : t + sumL (e :: d :: l) = t + lenE e + sumL (d :: l) := by simp only [sumL]; omega
    rw [hs]
    have h1 : innE (t + lenE e) e a (t + lenE e + sumL (d :: l)) = [lnE e] := by
      unfold innE; rw [if_pos (by simp only [sumL]; omega)]; rfl
    rw [innF, h1, List.append_assoc, List.getLast_cons (by simp), ih]; rfl
theorem atW_last {l : List Ed} (h : ∀ e ∈ l, 1 ≤ lenE e) (hne : l ≠ []) : atW l (sumL l) = ((l.getLast hne).x1, (l.getLast hne).y1) := by
  have hl : 0 < l.length := List.length_pos_iff.2 hne
  have h1 : l.take (l.length - 1 + 1) = l := List.take_of_length_le (by omega)
  have h2 := sumL_take l (l.length - 1) (by omega)
  rw [h1] at h2
  have hm := h _ (List.getElem_mem (show l.length - 1 < l.length by omega))
  rw [atW_at l (l.length - 1) (sumL l) (by omega) (fun _ => by omega) (by rw [h1]; omega)]
  have e : sumL l - sumL (l.take (l.length - 1)) = lenE l[l.length - 1] := by omega
  rw [e, (atE_ends hm).2, List.getLast_eq_getElem]
theorem atW_first {e : Ed} {l : List Ed} (h : 1 ≤ lenE e) : atW (e :: l) 0 = (e.x0, e.y0) := by
  unfold atW; rw [if_pos (by omega), (atE_ends h).1]
theorem part_all {c : Ct} (h : GoodC c) (hb : ∀ e ∈ c.es, e.bent = false) (hne : piecesC c ≠ []) : partW (piecesC c) 0 (sumL (piecesC c)) = ⟨1, c.x, c.y, 0, 0⟩ :: (piecesC c).map lnE := by
  have hok : ∀ e ∈ piecesC c, 1 ≤ lenE e := fun e he => by
    obtain ⟨h1, h2⟩ := piecesC_ok h hb e he
    exact lenE_pos h1.2 h2
  unfold partW
  rw [atW_last hok hne]
  rcases pieces_start h with h0 | ⟨e, r, h1, h2, h3⟩
  · exact absurd h0 hne
  · have hlast : ∀ (L : List Ed) (hL : L ≠ []) (he : L = e :: r), L.getLast hL = (e :: r).getLast (by simp) := by intro L hL he; subst he; rfl
    rw [hlast _ hne h1]
    rw [h1] at hok ⊢
    rw [atW_first (hok e (by simp)), h2, h3]
    have := innF_all r e 0 0 hok (Int.le_refl _)
    rw [Int.zero_add] at this
    rw [← this]; rfl
theorem row_none : Row [30000, 5] := ⟨by simp, by simp, by simp⟩
theorem dash_none {c : Ct} (h : GoodC c) (hb : ∀ e ∈ c.es, e.bent = false) (hs : sumL (piecesC c) ≤ 30000) : dashC [30000, 5] 0 c = noneC c := by
  unfold dashC noneC
  by_cases h0 : (piecesC c).length = 0
  · rw [if_pos h0]
    have : piecesC c = [] := List.eq_nil_of_length_eq_zero h0
    rw [this]; exact dashW_none rfl _ _
  · have hne : piecesC c ≠ [] := fun e => h0 (by rw [e]; rfl)
    have hp : 1 ≤ sumL (piecesC c) := by
      obtain ⟨e, r, he⟩ : ∃ e r, piecesC c = e :: r := by cases hh : piecesC c with | nil => exact absurd hh hne | cons e r => exact ⟨e, r, rfl⟩
      have h1 := piecesC_ok h hb e (by rw [he]; simp)
      have h2 := lenE_pos h1.1.2 h1.2
      have h3 := sumL_nonneg r
      rw [he]; simp only [sumL]; omega
    have p0 : pre [30000, 5] 0 = 0 := rfl
    have p1 : pre [30000, 5] 1 = 30000 := by simp [pre]
    have p2 : pre [30000, 5] 2 = 30005 := by simp [pre]
    rw [if_neg h0, ← dashTo_all row_none (k := 2) (by rw [p2]; omega)]
    have e0 : dashAt [30000, 5] 0 (piecesC c) 0 = partW (piecesC c) 0 (sumL (piecesC c)) := by
      unfold dashAt
      rw [p0, show 0 + 1 = 1 from rfl, p1, if_pos (by omega)]
      congr 1 <;> omega
    have e1 : dashAt [30000, 5] 0 (piecesC c) 1 = [] := by unfold dashAt; rw [if_neg (by omega)]
    rw [dashTo_succ, dashTo_succ, e0, e1, part_all h hb hne]
    simp [dashTo]
/-- On a small page. -/
def sm (v : Int) : Prop := -32 ≤ v ∧ v < 288
def SmE (e : Ed) : Prop := sm e.x0 ∧ sm e.y0 ∧ sm e.x1 ∧ sm e.y1
def SmC (c : Ct) : Prop := sm c.x ∧ sm c.y ∧ ∀ e ∈ c.es, SmE e
theorem cts_small : ∀ (l : List Sg) (st : List Ct × Int × Int), (∀ s ∈ l, smallSg s) → sm st.2.1 → sm st.2.2 → (∀ c ∈ st.1, SmC c) → ∀ c ∈ (l.foldl ctStep st).1, SmC c
  | [], _, _, _, _, h => h
  | s :: l, st, hk, hx, hy, h => by
    rw [List.foldl_cons]
    have hs := hk s (by simp)
    have hk' : ∀ t ∈ l, smallSg t := fun t ht => hk t (by simp [ht])
    unfold ctStep
    split
    · refine cts_small l _ hk' hs.1 hs.2.1 fun c hc => ?_
      rw [List.mem_append, List.mem_singleton] at hc
      rcases hc with hc | rfl
      · exact h c hc
      · exact ⟨hs.1, hs.2.1, fun e he => by simp at he⟩
    · split
      · refine cts_small l _ hk' hx hy fun c hc => ?_
        rcases mem_modLast _ _ _ hc with hc | ⟨d, hd, rfl⟩
        · exact h c hc
        · exact h d hd
      · refine cts_small l _ hk' hs.1 hs.2.1 fun c hc => ?_
        rcases mem_modLast _ _ _ hc with hc | ⟨d, hd, rfl⟩
        · exact h c hc
        · obtain ⟨d1, d2, d3⟩ := h d hd
          refine ⟨d1, d2, fun e he => ?_⟩
          simp only [List.mem_append, List.mem_singleton] at he
          rcases he with he | rfl
          · exact d3 e he
          · exact ⟨hx, hy, hs.1, hs.2.1⟩
theorem ctsL_small {l : List Sg} (h : ∀ s ∈ l, smallSg s) : ∀ c ∈ ctsL l, SmC c := by
  unfold ctsL; split
  · intro c hc; simp at hc
  · exact cts_small l _ h (by unfold sm; simp) (by unfold sm; simp) (fun c hc => by simp at hc)
theorem len_small {e : Ed} (h : SmE e) : lenE e ≤ 452 := by
  obtain ⟨⟨a1, a2⟩, ⟨b1, b2⟩, ⟨c1, c2⟩, ⟨d1, d2⟩⟩ := h
  have a := sq_bd (a := e.x1 - e.x0) (A := 319) (by omega)
  have b := sq_bd (a := e.y1 - e.y0) (A := 319) (by omega)
  unfold lenE
  exact flr_le (by unfold sqE; omega) (by unfold sqE; omega) (by omega) (by unfold sqE; omega)
theorem end_small : ∀ (es : List Ed) (x y : Int), (∀ e ∈ es, SmE e) → sm x → sm y → sm (endX x es) ∧ sm (endY y es)
  | [], _, _, _, hx, hy => ⟨hx, hy⟩
  | e :: es, x, y, h, _, _ => by
    rw [endX_cons, endY_cons]
    have := h e (by simp)
    exact end_small es _ _ (fun d hd => h d (by simp [hd])) this.2.2.1 this.2.2.2
theorem pieces_small {c : Ct} (h : SmC c) : ∀ e ∈ piecesC c, SmE e := by
  intro e he
  unfold piecesC at he
  rw [List.mem_append, List.mem_filter] at he
  rcases he with he | he
  · exact h.2.2 e he.1
  · split at he
    · rw [List.mem_singleton] at he
      subst he
      obtain ⟨h1, h2⟩ := end_small c.es c.x c.y h.2.2 h.1 h.2.1
      exact ⟨h1, h2, h.1, h.2.1⟩
    · simp at he
theorem sum_small : ∀ (l : List Ed), (∀ e ∈ l, SmE e) → sumL l ≤ 452 * l.length
  | [], _ => by simp [sumL]
  | e :: l, h => by
    have := sum_small l (fun d hd => h d (by simp [hd]))
    have := len_small (h e (by simp))
    simp only [sumL, List.length_cons]; omega
theorem piecesC_len2 (c : Ct) : (piecesC c).length ≤ c.es.length + (clL c.shut).length := by
  unfold piecesC
  rw [List.length_append]
  have := List.length_filter_le moved c.es
  cases hs : c.shut
  · simp; omega
  · rw [Bool.true_and]
    have h2 : (clL true).length = 1 := rfl
    rw [h2]
    by_cases hm : moved (backE c) = true
    · rw [if_pos hm]; simp; omega
    · rw [if_neg hm]; simp; omega
theorem noneC_len (c : Ct) : (noneC c).length ≤ (pathC c).length := by
  have h := piecesC_len2 c
  have hp : (pathC c).length = 1 + (c.es.length + (clL c.shut).length) := by unfold pathC; simp [Nat.add_comm]
  rw [hp]
  unfold noneC
  by_cases h0 : (piecesC c).length = 0
  · rw [if_pos h0]; simp
  · rw [if_neg h0, List.length_cons, List.length_map]; omega
theorem none_law {l : List Sg} (h : MadeOK l false) : cutL [30000, 5] 0 l = (noneL l, 0) ∧ (noneL l).length ≤ 12 := by
  have hmay := h.may
  have hl := h.2.1
  have hd : dashL [30000, 5] 0 l = noneL l := by
    unfold dashL noneL
    have hc : ∀ c ∈ ctsL l, dashC [30000, 5] 0 c = noneC c := fun c hc => by
      refine dash_none (ctsL_good l c hc) (ctsL_straight (fun s hs => h.2.2.2 rfl s hs) c hc) ?_
      have h1 := sum_small _ (pieces_small (ctsL_small h.2.2.1 c hc))
      have h2 := piecesC_len c
      have h3 := cts_es l c hc
      omega
    generalize ctsL l = cs at hc
    induction cs with
    | nil => rfl
    | cons c cs ih =>
      rw [List.flatMap_cons, List.flatMap_cons, hc c (by simp), ih (fun d hd => hc d (by simp [hd]))]
  have hlen : (noneL l).length ≤ 12 := by
    have h1 : (noneL l).length ≤ (pathOf (ctsL l)).length := by
      unfold noneL pathOf
      generalize ctsL l = cs
      induction cs with
      | nil => simp
      | cons c cs ih =>
        have := noneC_len c
        rw [List.flatMap_cons, List.flatMap_cons, List.length_append, List.length_append]; omega
    rw [pathOf_ctsL hmay] at h1
    omega
  exact ⟨by rw [cutL_all (by simp) (by rw [hd]; omega), hd], hlen⟩

end Go.Proofs.Ytbpgehaflbacmaa

/- What a contour's stroke covers, told without lists of shapes; wider strokes, other ends. -/
namespace Go.Proofs.Ytbpgehaflbacmaa

/-- The stretch of a piece; ahead of it, behind it (square ends). -/
def OnP (e : Ed) (w x y : Int) : Prop := 4 * (armK e x y * armK e x y) ≤ w * w * sqE e ∧ 0 ≤ armU e x y ∧ armU e x y ≤ sqE e
def AheadP (e : Ed) (w x y : Int) : Prop := 4 * (armK e x y * armK e x y) ≤ w * w * sqE e ∧ armU e x y ≤ 0 ∧ 4 * (armU e x y * armU e x y) ≤ w * w * sqE e
def BehindP (e : Ed) (w x y : Int) : Prop := 4 * (armK e x y * armK e x y) ≤ w * w * sqE e ∧ sqE e ≤ armU e x y ∧ 4 * ((armU e x y - sqE e) * (armU e x y - sqE e)) ≤ w * w * sqE e
theorem sqE_nonneg (e : Ed) : 0 ≤ sqE e := by
  unfold sqE
  have h : ∀ a : Int, 0 ≤ a * a := fun a => by
    rcases Int.le_total 0 a with h | h
    · exact Int.mul_nonneg h h
    · exact Int.mul_nonneg_of_nonpos_of_nonpos h h
  have := h (e.x1 - e.x0)
  have := h (e.y1 - e.y0)
  omega
theorem sq_nonneg (a : Int) : 0 ≤ a * a := by
  rcases Int.le_total 0 a with h | h
  · exact Int.mul_nonneg h h
  · exact Int.mul_nonneg_of_nonpos_of_nonpos h h
theorem pieceP_iff (e : Ed) (w : Int) (f l : Bool) (x y : Int) : PieceP e w f l x y ↔ OnP e w x y ∨ (f = true ∧ AheadP e w x y) ∨ (l = true ∧ BehindP e w x y) := by
  have hS := sqE_nonneg e
  have h0 := sq_nonneg (armK e x y)
  unfold PieceP OnP AheadP BehindP
  cases f <;> cases l <;> simp only [Bool.false_eq_true, false_and, or_false, true_and, false_or]
  · constructor
    · rintro ⟨a, b, c⟩
      rcases c with c | c
      · exact .inl ⟨a, b, c⟩
      · rcases Int.le_total (armU e x y) (sqE e) with d | d
        · exact .inl ⟨a, b, d⟩
        · exact .inr ⟨a, d, c⟩
    · rintro (⟨a, b, c⟩ | ⟨a, b, c⟩)
      · exact ⟨a, b, .inl c⟩
      · exact ⟨a, by omega, .inr c⟩
  · constructor
    · rintro ⟨a, b, c⟩
      rcases b with b | b
      · exact .inl ⟨a, b, c⟩
      · rcases Int.le_total 0 (armU e x y) with d | d
        · exact .inl ⟨a, d, c⟩
        · exact .inr ⟨a, d, b⟩
    · rintro (⟨a, b, c⟩ | ⟨a, b, c⟩)
      · exact ⟨a, .inl b, c⟩
      · exact ⟨a, .inr c, by omega⟩
  · constructor
    · rintro ⟨a, b, c⟩
      rcases Int.le_total 0 (armU e x y) with d | d
      · rcases Int.le_total (armU e x y) (sqE e) with d2 | d2
        · exact .inl ⟨a, d, d2⟩
        · rcases c with c | c
          · exact .inl ⟨a, d, c⟩
          · exact .inr (.inr ⟨a, d2, c⟩)
      · rcases b with b | b
        · exact .inl ⟨a, b, by omega⟩
        · exact .inr (.inl ⟨a, d, b⟩)
    · rintro (⟨a, b, c⟩ | ⟨a, b, c⟩ | ⟨a, b, c⟩)
      · exact ⟨a, .inl b, .inl c⟩
      · exact ⟨a, .inr c, .inl (by omega)⟩
      · exact ⟨a, .inl (by omega), .inr c⟩

/-- What the k-th piece and what stands at it cover. -/
def CovAt (shut : Bool) (s : Sy) (ps : List Ed) (i : Nat) (e : Ed) (x y : Int) : Prop :=
  OnP e s.wide x y ∨ (i = 0 ∧ shut = false ∧ s.cap = 2 ∧ AheadP e s.wide x y) ∨ (i + 1 = ps.length ∧ shut = false ∧ s.cap = 2 ∧ BehindP e s.wide x y) ∨
    (((i = 0 ∧ shut = false ∧ s.cap = 1) ∨ (¬ (i = 0 ∧ shut = false) ∧ s.join = 1)) ∧ DiscP e.x0 e.y0 s.wide x y) ∨ ((i + 1 = ps.length ∧ shut = false ∧ s.cap = 1) ∧ DiscP e.x1 e.y1 s.wide x y)
theorem covAt_iff (shut : Bool) (s : Sy) (ps : List Ed) (i : Nat) (e : Ed) (x y : Int) : (∃ h ∈ shAt shut s ps i e, covS h x y = true) ↔ CovAt shut s ps i e x y := by
  unfold shAt CovAt
  constructor
  · rintro ⟨h, hm, hc⟩
    rw [List.mem_cons, List.mem_append] at hm
    rcases hm with rfl | hm | hm
    · simp only [covS, decide_eq_true_eq] at hc
      rw [pieceP_iff] at hc
      simp only [Bool.and_eq_true, decide_eq_true_eq, Bool.not_eq_true'] at hc
      rcases hc with hc | ⟨⟨⟨a, b⟩, c⟩, d⟩ | ⟨⟨⟨a, b⟩, c⟩, d⟩
      · exact .inl hc
      · exact .inr (.inl ⟨a, b, c, d⟩)
      · exact .inr (.inr (.inl ⟨a, b, c, d⟩))
    · split at hm
      · next hh =>
        rw [List.mem_singleton] at hm; subst hm
        simp only [covS, decide_eq_true_eq] at hc
        refine .inr (.inr (.inr (.inl ⟨?_, hc⟩)))
        simp only [Bool.or_eq_true, Bool.and_eq_true, decide_eq_true_eq, Bool.not_eq_true', Bool.and_eq_false_iff, decide_eq_false_iff_not, Bool.not_eq_false'] at hh
        rcases hh with ⟨⟨a, b⟩, c⟩ | ⟨a, b⟩
        · exact .inl ⟨a, b, c⟩
        · refine .inr ⟨?_, b⟩
          rintro ⟨c, d⟩
          rcases a with a | a
          · exact a c
          · rw [d] at a; cases a
      · simp at hm
    · split at hm
      · next hh =>
        rw [List.mem_singleton] at hm; subst hm
        simp only [covS, decide_eq_true_eq] at hc
        simp only [Bool.and_eq_true, decide_eq_true_eq, Bool.not_eq_true'] at hh
        exact .inr (.inr (.inr (.inr ⟨⟨hh.1.1, hh.1.2, hh.2⟩, hc⟩)))
      · simp at hm
  · rintro (h | ⟨a, b, c, d⟩ | ⟨a, b, c, d⟩ | ⟨h, d⟩ | ⟨⟨a, b, c⟩, d⟩)
    · exact ⟨_, List.mem_cons_self .., by simp only [covS, decide_eq_true_eq]; rw [pieceP_iff]; exact .inl h⟩
    · exact ⟨_, List.mem_cons_self .., by simp only [covS, decide_eq_true_eq]; rw [pieceP_iff]; exact .inr (.inl ⟨by simp [a, b, c], d⟩)⟩
    · exact ⟨_, List.mem_cons_self .., by simp only [covS, decide_eq_true_eq]; rw [pieceP_iff]; exact .inr (.inr ⟨by simp [a, b, c], d⟩)⟩
    · refine ⟨.disc e.x0 e.y0 s.wide, List.mem_cons_of_mem _ (List.mem_append_left _ ?_), by simp only [covS, decide_eq_true_eq]; exact d⟩
      rw [if_pos]
      · simp
      · rcases h with ⟨a, b, c⟩ | ⟨a, b⟩
        · simp [a, b, c]
        · by_cases h1 : i = 0
          · have h2 : shut = true := by cases shut; exact absurd ⟨h1, rfl⟩ a; rfl
            simp [h2, b]
          · simp [h1, b]
    · refine ⟨.disc e.x1 e.y1 s.wide, List.mem_cons_of_mem _ (List.mem_append_right _ ?_), by simp only [covS, decide_eq_true_eq]; exact d⟩
      rw [if_pos (by simp [a, b, c])]
      simp
/-- What a dot covers. -/
def DotP (c : Ct) (s : Sy) (x y : Int) : Prop := (s.cap = 1 ∧ DiscP c.x c.y s.wide x y) ∨ (s.cap = 2 ∧ SquareP c.x c.y s.wide x y)
theorem dot_iff (c : Ct) (s : Sy) (x y : Int) : (∃ h ∈ dotS c s, covS h x y = true) ↔ DotP c s x y := by
  unfold dotS DotP
  split
  · next h1 => simp [covS, h1]
  · next h1 =>
    split
    · next h2 => simp [covS, h2]
    · next h2 => simp [h1, h2]
/-- What a contour covers. -/
def CovC (c : Ct) (s : Sy) (x y : Int) : Prop :=
  (piecesC c = [] ∧ (0 < c.es.length ∨ c.shut = true) ∧ DotP c s x y) ∨ ∃ (i : Nat) (h : i < (piecesC c).length), CovAt c.shut s (piecesC c) i (piecesC c)[i] x y
theorem covC_iff (c : Ct) (s : Sy) (x y : Int) : (∃ h ∈ shpC s c, covS h x y = true) ↔ CovC c s x y := by
  unfold shpC CovC
  by_cases h0 : (piecesC c).length = 0
  · have hn : piecesC c = [] := List.eq_nil_of_length_eq_zero h0
    rw [if_pos h0]
    have hno : ¬ ∃ (i : Nat) (h : i < (piecesC c).length), CovAt c.shut s (piecesC c) i (piecesC c)[i] x y := by rintro ⟨i, h, _⟩; omega
    constructor
    · rintro ⟨h, hm, hc⟩
      split at hm
      · next hh => exact .inl ⟨hn, hh, (dot_iff c s x y).1 ⟨h, hm, hc⟩⟩
      · simp at hm
    · rintro (⟨_, hh, hd⟩ | hh)
      · rw [if_pos hh]; exact (dot_iff c s x y).2 hd
      · exact absurd hh hno
  · rw [if_neg h0]
    constructor
    · rintro ⟨h, hm, hc⟩
      rw [mem_shTo _ _ _ _ _ (Nat.le_refl _)] at hm
      obtain ⟨i, hi, _, hm⟩ := hm
      exact .inr ⟨i, hi, (covAt_iff ..).1 ⟨h, hm, hc⟩⟩
    · rintro (⟨hn, _⟩ | ⟨i, hi, hc⟩)
      · rw [hn] at h0; exact absurd rfl h0
      · obtain ⟨h, hm, hc⟩ := (covAt_iff ..).2 hc
        exact ⟨h, (mem_shTo _ _ _ _ _ (Nat.le_refl _)).2 ⟨i, hi, hi, hm⟩, hc⟩
theorem covL_iff (l : List Sg) (s : Sy) (x y : Int) : covL l s x y = true ↔ ∃ c ∈ ctsL l, CovC c s x y := by
  unfold covL shL
  rw [List.any_eq_true]
  constructor
  · rintro ⟨h, hm, hc⟩
    rw [List.mem_flatMap] at hm
    obtain ⟨c, hcm, hm⟩ := hm
    exact ⟨c, hcm, (covC_iff c s x y).1 ⟨h, hm, hc⟩⟩
  · rintro ⟨c, hcm, hc⟩
    obtain ⟨h, hm, hc⟩ := (covC_iff c s x y).2 hc
    exact ⟨h, List.mem_flatMap.2 ⟨c, hcm, hm⟩, hc⟩
theorem plainB_iff {l : List Sg} : plainB l = true ↔ mayB l = true ∧ ∀ s ∈ l, s.kind ≠ 3 := by
  simp only [plainB, Bool.and_eq_true, List.all_eq_true, Bool.not_eq_true', beq_eq_false_iff_ne, ne_eq]
  exact ⟨fun h => ⟨h.2, h.1⟩, fun h => ⟨h.2, h.1⟩⟩
/-- On the page, for a style that may be, a stroke is what its shapes cover. -/
theorem inL_is {l : List Sg} {s : Sy} {x y : Int} (hm : mayB l = true) (hb : ∀ t ∈ l, t.kind ≠ 3) (hs : mayS s = true) (hx : co x = true) (hy : co y = true) : inL l s x y = covL l s x y := by
  unfold inL; rw [plainB_iff.2 ⟨hm, hb⟩, hs, hx, hy]; rfl
end Go.Proofs.Ytbpgehaflbacmaa

/- The plain side of what adds to a path: longer, Point, Start, Line, Bow, Shut, Join. -/
namespace Go.Proofs.Ytbpgehaflbacmaa

/-- A path and more, or the error. -/
def longL (l m : List Sg) : List Sg × Int := if 300 < l.length + m.length then ([], 5) else (l ++ m, 0)
/-- Where the last Move goes; 0, 0: there is none. -/
def lastMv (l : List Sg) : Int × Int := ((l.reverse.find? fun s => s.kind == 1).map fun s => (s.x, s.y)).getD (0, 0)
/-- Where a path is. -/
def ptL (l : List Sg) : Int × Int × Bool :=
  if l = [] ∨ mayB l = false then (0, 0, false) else if lastK l = 4 then ((lastMv l).1, (lastMv l).2, true) else (lastX l, lastY l, true)
def startL (l : List Sg) (x y : Int) : List Sg × Int :=
  if mayB l = false then ([], 1) else if nearB [x, y] = false then ([], 2) else longL (if lastK l = 1 then l.dropLast else l) [⟨1, x, y, 0, 0⟩]
def onL (l : List Sg) (s : Sg) : List Sg × Int :=
  if mayB l = false then ([], 1) else if l = [] then ([], 13) else if nearB [s.x, s.y, s.cx, s.cy] = false then ([], 2)
  else if lastK l = 4 then longL l [⟨1, (ptL l).1, (ptL l).2.1, 0, 0⟩, s] else longL l [s]
def shutL (l : List Sg) : List Sg × Int :=
  if mayB l = false then ([], 1) else if l = [] ∨ lastK l = 4 then longL l [] else longL l [⟨4, 0, 0, 0, 0⟩]
def joinL (l m : List Sg) : List Sg × Int :=
  if mayB l = false ∨ mayB m = false then ([], 1) else longL (if lastK l = 1 ∧ m ≠ [] then l.dropLast else l) m

theorem longL_len (l m : List Sg) : (longL l m).1.length ≤ 300 := by
  unfold longL; split
  · simp
  · simp only [List.length_append]; omega
theorem last_get {l : List Sg} (h : l.length - 1 < l.length) : lastK l = l[l.length - 1].kind ∧ lastX l = l[l.length - 1].x ∧ lastY l = l[l.length - 1].y := by
  unfold lastK lastX lastY
  rw [List.getLast?_eq_getElem?, List.getElem?_eq_getElem h]; exact ⟨rfl, rfl, rfl⟩
theorem lastMv_take {l : List Sg} {i : Nat} (h : i < l.length) : lastMv (l.take (i + 1)) = if l[i].kind = 1 then (l[i].x, l[i].y) else lastMv (l.take i) := by
  unfold lastMv
  rw [List.take_succ_eq_append_getElem h, List.reverse_append, List.reverse_singleton, List.singleton_append, List.find?_cons]
  by_cases hk : l[i].kind = 1
  · simp [hk]
  · have hb : (l[i].kind == 1) = false := by simpa using hk
    rw [if_neg hk]
    simp only [hb]
theorem may_first {l : List Sg} (h : mayB l = true) (h0 : 0 < l.length) : l[0].kind = 1 := by
  apply Classical.byContradiction
  intro hn
  have h1 := (mayB_from h).1
  cases l with
  | nil => simp at h0
  | cons s l =>
    simp only [mayFrom, Bool.and_eq_true] at h1
    have := rightB_iff.1 h1.1
    simp only [List.getElem_cons_zero] at hn
    rcases this.2 with ⟨a, _⟩ | ⟨_, b, _⟩
    · exact hn a
    · exact b rfl

end Go.Proofs.Ytbpgehaflbacmaa

/- The plain law of PathJoins. -/
namespace Go.Proofs.Ytbpgehaflbacmaa

/-- The edge that closes a contour, where one is wanted. -/
def closeC (c : Ct) : List Ed := if endX c.x c.es = c.x ∧ endY c.y c.es = c.y then [] else [⟨endX c.x c.es, endY c.y c.es, false, 0, 0, c.x, c.y⟩]
/-- A contour's edges, closed. -/
def edgesC (c : Ct) : List Ed := c.es ++ closeC c
/-- The edges of a path. -/
def edgesL (l : List Sg) : List Ed := (ctsL l).flatMap edgesC

theorem ends_bare : ∀ (a : List Ct) (c : Ct), ends (a ++ [c]) = true → ∀ d ∈ a, bare d = false
  | [], _, _, d, hd => by simp at hd
  | [x], c, h, d, hd => by
    simp only [List.cons_append, List.nil_append, ends, Bool.and_eq_true, Bool.not_eq_true'] at h
    rw [List.mem_singleton] at hd; subst hd; exact h.1
  | x :: y :: a, c, h, d, hd => by
    simp only [List.cons_append, ends, Bool.and_eq_true, Bool.not_eq_true'] at h
    rcases List.mem_cons.1 hd with rfl | hd
    · exact h.1
    · exact ends_bare (y :: a) c (by simpa using h.2) d hd
theorem ends_app : ∀ (a b : List Ct), (∀ c ∈ a, bare c = false) → ends b = true → ends (a ++ b) = true
  | [], b, _, hb => hb
  | x :: a, b, ha, hb => by
    have ih := ends_app a b (fun c hc => ha c (by simp [hc])) hb
    rw [List.cons_append]
    cases hab : a ++ b with
    | nil => rfl
    | cons y r =>
      rw [hab] at ih
      simp only [ends, Bool.and_eq_true, Bool.not_eq_true']
      exact ⟨ha x (by simp), ih⟩
theorem lastK_pathC (c : Ct) (p : List Sg) : lastK (p ++ pathC c) = 1 ↔ bare c = true := by
  obtain ⟨x, y, es, b⟩ := c
  unfold lastK pathC bare
  cases b
  · simp only [clL, Bool.false_eq_true, if_false, List.append_nil, Bool.not_false, Bool.and_true]
    by_cases hn : es = []
    · subst hn; simp
    · obtain ⟨a, e, rfl⟩ := snoc_of_ne es hn
      have : (p ++ (⟨1, x, y, 0, 0⟩ :: (a ++ [e]).map sgE)).getLast? = some (sgE e) := by
        rw [List.map_append, List.map_singleton, ← List.cons_append, ← List.append_assoc, List.getLast?_append]; simp
      rw [this]
      rcases sgE_kind e with k | k <;> simp [k]
  · have : (p ++ (⟨1, x, y, 0, 0⟩ :: (es.map sgE ++ clL true))).getLast? = some ⟨4, 0, 0, 0, 0⟩ := by
      simp only [clL, if_true]
      rw [← List.cons_append, ← List.append_assoc, List.getLast?_append]; simp
    simp only
    rw [this]; simp
theorem bare_edges {c : Ct} (h : bare c = true) : edgesC c = [] ∧ pathC c = [⟨1, c.x, c.y, 0, 0⟩] := by
  obtain ⟨x, y, es, b⟩ := c
  simp only [bare, Bool.and_eq_true, Bool.not_eq_true', List.isEmpty_iff] at h
  obtain ⟨rfl, rfl⟩ := h
  simp [edgesC, closeC, endX, endY, pathC, clL]
theorem pathOf_app (a b : List Ct) : pathOf (a ++ b) = pathOf a ++ pathOf b := by simp [pathOf]
theorem longL_ok {l m : List Sg} (h : l.length + m.length ≤ 300) : longL l m = (l ++ m, 0) := by unfold longL; rw [if_neg (by omega)]
theorem lastK_ne {l : List Sg} (h : lastK l = 1) : l ≠ [] := by rintro rfl; cases h

theorem joins {l m : List Sg} (hl : mayB l = true) (hm : mayB m = true) (hlen : l.length + m.length ≤ 300) :
    ∃ J, joinL l m = (J, 0) ∧ J.length ≤ 300 ∧ mayB J = true ∧ edgesL J = edgesL l ++ edgesL m ∧ (ctsL J).length + (if lastK l = 1 ∧ m ≠ [] then 1 else 0) = (ctsL l).length + (ctsL m).length := by
  have el := pathOf_ctsL hl
  have em := pathOf_ctsL hm
  have gl := ctsL_good l
  have gm := ctsL_good m
  have hl' := hl
  have hm' := hm
  rw [← el, mayB_pathOf gl] at hl'
  rw [← em, mayB_pathOf gm] at hm'
  have key : ∀ cs : List Ct, (∀ c ∈ cs, GoodC c) → ends cs = true → (pathOf cs).length ≤ 300 → mayB (pathOf cs) = true ∧ ctsL (pathOf cs) = cs := fun cs g e hn => by
    have h := (mayB_pathOf g).2 ⟨hn, e⟩
    exact ⟨h, ctsL_pathOf g h⟩
  have hj : joinL l m = longL (if lastK l = 1 ∧ m ≠ [] then l.dropLast else l) m := by unfold joinL; rw [if_neg (by simp [hl, hm])]
  rw [hj]
  by_cases hc : lastK l = 1 ∧ m ≠ []
  · rw [if_pos hc, if_pos hc]
    have hne : ctsL l ≠ [] := fun e => lastK_ne hc.1 (by rw [← el, e]; rfl)
    obtain ⟨a, c, hac⟩ := snoc_of_ne _ hne
    have hbc : bare c = true := by
      rw [← lastK_pathC c (pathOf a), ← pathOf_snoc, ← hac, el]; exact hc.1
    have hdl : l.dropLast = pathOf a := by
      conv => lhs; rw [← el, hac, pathOf_snoc, (bare_edges hbc).2]
      simp
    rw [hac] at gl hl'
    have ha := ends_bare a c hl'.2
    have hJ : l.dropLast ++ m = pathOf (a ++ ctsL m) := by rw [pathOf_app, em, hdl]
    have hJl : (l.dropLast ++ m).length ≤ 300 := by rw [List.length_append, List.length_dropLast]; omega
    obtain ⟨h1, h2⟩ := key (a ++ ctsL m) (fun d hd => (List.mem_append.1 hd).elim (fun h => gl d (by simp [h])) (gm d)) (ends_app a _ ha hm'.2) (by rw [← hJ]; exact hJl)
    refine ⟨l.dropLast ++ m, longL_ok (by rw [List.length_dropLast]; omega), hJl, by rw [hJ]; exact h1, ?_, ?_⟩
    · unfold edgesL
      rw [hJ, h2, hac, List.flatMap_append, List.flatMap_append]
      simp [(bare_edges hbc).1]
    · rw [hJ, h2, hac, List.length_append, List.length_append]; simp; omega
  · rw [if_neg hc, if_neg hc]
    have hJ : l ++ m = pathOf (ctsL l ++ ctsL m) := by rw [pathOf_app, el, em]
    have hJl : (l ++ m).length ≤ 300 := by rw [List.length_append]; omega
    have hends : ends (ctsL l ++ ctsL m) = true := by
      by_cases hmn : m = []
      · have : ctsL m = [] := by rw [hmn]; rfl
        rw [this, List.append_nil]; exact hl'.2
      · refine ends_app _ _ (fun d hd => ?_) hm'.2
        have hne : ctsL l ≠ [] := fun e => by rw [e] at hd; simp at hd
        obtain ⟨a, c, hac⟩ := snoc_of_ne _ hne
        rw [hac] at hd hl'
        rcases List.mem_append.1 hd with h | h
        · exact ends_bare a c hl'.2 d h
        · rw [List.mem_singleton] at h; subst h
          cases hb : bare d
          · rfl
          · exact absurd ⟨by rw [← el, hac, pathOf_snoc]; exact (lastK_pathC d _).2 hb, hmn⟩ hc
    obtain ⟨h1, h2⟩ := key (ctsL l ++ ctsL m) (fun d hd => (List.mem_append.1 hd).elim (gl d) (gm d)) hends (by rw [← hJ]; exact hJl)
    refine ⟨l ++ m, longL_ok hlen, hJl, by rw [hJ]; exact h1, ?_, ?_⟩
    · unfold edgesL; rw [hJ, h2, List.flatMap_append]
    · rw [hJ, h2, List.length_append]; rfl
theorem join_nil {l : List Sg} (hl : mayB l = true) : joinL l [] = (l, 0) := by
  unfold joinL
  rw [if_neg (by rw [hl]; decide), if_neg (by simp), longL_ok (by have := (mayB_from hl).2; simpa using this)]; simp
theorem nil_join {m : List Sg} (hm : mayB m = true) : joinL [] m = (m, 0) := by
  unfold joinL
  rw [if_neg (by rw [hm]; decide), if_neg (by rintro ⟨h, _⟩; cases h), longL_ok (by have := (mayB_from hm).2; simpa using this)]; simp

end Go.Proofs.Ytbpgehaflbacmaa

/- The plain side of Box. -/
namespace Go.Proofs.Ytbpgehaflbacmaa

structure Bx where
  x0 : Int
  y0 : Int
  x1 : Int
  y1 : Int
deriving DecidableEq, Inhabited

def loI (a x : Int) : Int := if x < a then x else a
def hiI (a x : Int) : Int := if a < x then x else a
/-- A box, wide enough for a point. -/
def wid (b : Bx) (x y : Int) : Bx := ⟨loI b.x0 x, loI b.y0 y, hiI b.x1 x, hiI b.y1 y⟩
def boxStep (b : Bx) (s : Sg) : Bx := if s.kind = 4 then b else wid (if s.kind = 3 then wid b s.cx s.cy else b) s.x s.y
/-- The box of a path; is there one? -/
def boxFrom (l : List Sg) : Bx := match l with | [] => ⟨0, 0, 0, 0⟩ | s :: l => (s :: l).foldl boxStep ⟨s.x, s.y, s.x, s.y⟩
def boxL (l : List Sg) : Bx × Bool := if l = [] ∨ mayB l = false then (⟨0, 0, 0, 0⟩, false) else (boxFrom l, true)

theorem fold_take {α β : Type} (f : β → α → β) (b : β) (l : List α) (k : Nat) (h : k < l.length) : (l.take (k + 1)).foldl f b = f ((l.take k).foldl f b) l[k] := by
  rw [List.take_succ_eq_append_getElem h, List.foldl_append]; rfl
theorem boxFrom_get (l : List Sg) (h : 0 < l.length) : boxFrom l = l.foldl boxStep ⟨l[0].x, l[0].y, l[0].x, l[0].y⟩ := by
  cases l with
  | nil => simp at h
  | cons s l => rfl

end Go.Proofs.Ytbpgehaflbacmaa

/- The plain law of Box: it is the box of the path's points; a turned path has the same points. -/
namespace Go.Proofs.Ytbpgehaflbacmaa

def ptE (e : Ed) : List (Int × Int) := (if e.bent then [(e.cx, e.cy)] else []) ++ [(e.x1, e.y1)]
def ptS (s : Sg) : List (Int × Int) := if s.kind = 4 then [] else (if s.kind = 3 then [(s.cx, s.cy)] else []) ++ [(s.x, s.y)]
/-- A path's points. -/
def pts (l : List Sg) : List (Int × Int) := l.flatMap ptS
def ptC (c : Ct) : List (Int × Int) := (c.x, c.y) :: c.es.flatMap ptE

structure IsBox (b : Bx) (P : Int × Int → Prop) : Prop where
  all : ∀ p, P p → b.x0 ≤ p.1 ∧ p.1 ≤ b.x1 ∧ b.y0 ≤ p.2 ∧ p.2 ≤ b.y1
  x0 : ∃ p, P p ∧ p.1 = b.x0
  x1 : ∃ p, P p ∧ p.1 = b.x1
  y0 : ∃ p, P p ∧ p.2 = b.y0
  y1 : ∃ p, P p ∧ p.2 = b.y1

theorem IsBox.uniq {b b' : Bx} {P : Int × Int → Prop} (h : IsBox b P) (h' : IsBox b' P) : b = b' := by
  obtain ⟨a, ⟨p0, q0, e0⟩, ⟨p1, q1, e1⟩, ⟨p2, q2, e2⟩, ⟨p3, q3, e3⟩⟩ := h
  obtain ⟨a', ⟨p0', q0', e0'⟩, ⟨p1', q1', e1'⟩, ⟨p2', q2', e2'⟩, ⟨p3', q3', e3'⟩⟩ := h'
  have := a' _ q0; have := a' _ q1; have := a' _ q2; have := a' _ q3
  have := a _ q0'; have := a _ q1'; have := a _ q2'; have := a _ q3'
  obtain ⟨x0, y0, x1, y1⟩ := b
  obtain ⟨x0', y0', x1', y1'⟩ := b'
  simp only at *
  rw [Bx.mk.injEq]; omega
theorem IsBox.congr {b : Bx} {P Q : Int × Int → Prop} (h : IsBox b P) (hPQ : ∀ p, P p ↔ Q p) : IsBox b Q := by
  have : P = Q := funext fun p => propext (hPQ p)
  rw [← this]; exact h
theorem lo_le (a x : Int) : loI a x ≤ a ∧ loI a x ≤ x ∧ (loI a x = a ∨ loI a x = x) := by unfold loI; split <;> omega
theorem hi_le (a x : Int) : a ≤ hiI a x ∧ x ≤ hiI a x ∧ (hiI a x = a ∨ hiI a x = x) := by unfold hiI; split <;> omega
theorem IsBox.wid {b : Bx} {P : Int × Int → Prop} (h : IsBox b P) (x y : Int) : IsBox (wid b x y) (fun p => P p ∨ p = (x, y)) := by
  obtain ⟨a, ⟨p0, q0, e0⟩, ⟨p1, q1, e1⟩, ⟨p2, q2, e2⟩, ⟨p3, q3, e3⟩⟩ := h
  have h0 := lo_le b.x0 x
  have h1 := lo_le b.y0 y
  have h2 := hi_le b.x1 x
  have h3 := hi_le b.y1 y
  refine ⟨fun p hp => ?_, ?_, ?_, ?_, ?_⟩
  · simp only [Proofs.Ytbpgehaflbacmaa.wid]
    rcases hp with hp | rfl
    · have := a p hp; omega
    · simp only; omega
  · rcases h0.2.2 with e | e
    · exact ⟨p0, .inl q0, by simp only [Proofs.Ytbpgehaflbacmaa.wid]; rw [e, e0]⟩
    · exact ⟨(x, y), .inr rfl, by simp only [Proofs.Ytbpgehaflbacmaa.wid]; rw [e]⟩
  · rcases h2.2.2 with e | e
    · exact ⟨p1, .inl q1, by simp only [Proofs.Ytbpgehaflbacmaa.wid]; rw [e, e1]⟩
    · exact ⟨(x, y), .inr rfl, by simp only [Proofs.Ytbpgehaflbacmaa.wid]; rw [e]⟩
  · rcases h1.2.2 with e | e
    · exact ⟨p2, .inl q2, by simp only [Proofs.Ytbpgehaflbacmaa.wid]; rw [e, e2]⟩
    · exact ⟨(x, y), .inr rfl, by simp only [Proofs.Ytbpgehaflbacmaa.wid]; rw [e]⟩
  · rcases h3.2.2 with e | e
    · exact ⟨p3, .inl q3, by simp only [Proofs.Ytbpgehaflbacmaa.wid]; rw [e, e3]⟩
    · exact ⟨(x, y), .inr rfl, by simp only [Proofs.Ytbpgehaflbacmaa.wid]; rw [e]⟩
theorem IsBox.fold : ∀ (L : List (Int × Int)) {b : Bx} {P : Int × Int → Prop} (_ : IsBox b P), IsBox (L.foldl (fun b p => Proofs.Ytbpgehaflbacmaa.wid b p.1 p.2) b) (fun p => P p ∨ p ∈ L)
  | [], _, _, h => h.congr fun p => by simp
  | q :: L, b, P, h => by
    have := IsBox.fold L (h.wid q.1 q.2)
    refine this.congr fun p => ?_
    simp only [List.mem_cons, or_assoc]
theorem boxStep_pts (b : Bx) (s : Sg) : boxStep b s = (ptS s).foldl (fun b p => wid b p.1 p.2) b := by
  unfold boxStep ptS
  by_cases h4 : s.kind = 4
  · rw [if_pos h4, if_pos h4]; rfl
  · rw [if_neg h4, if_neg h4]
    by_cases h3 : s.kind = 3
    · rw [if_pos h3, if_pos h3]; rfl
    · rw [if_neg h3, if_neg h3]; rfl
theorem foldl_pts : ∀ (l : List Sg) (b : Bx), l.foldl boxStep b = (pts l).foldl (fun b p => wid b p.1 p.2) b
  | [], _ => rfl
  | s :: l, b => by
    have : pts (s :: l) = ptS s ++ pts l := by simp [pts]
    rw [List.foldl_cons, boxStep_pts, foldl_pts l, this, List.foldl_append]
theorem box_is {l : List Sg} (h : mayB l = true) (h0 : l ≠ []) : IsBox (boxFrom l) (· ∈ pts l) := by
  have hl := List.length_pos_iff.2 h0
  rw [boxFrom_get l hl, foldl_pts]
  have h1 : IsBox ⟨l[0].x, l[0].y, l[0].x, l[0].y⟩ (fun p => p = (l[0].x, l[0].y)) :=
    ⟨fun p hp => by subst hp; simp, ⟨_, rfl, rfl⟩, ⟨_, rfl, rfl⟩, ⟨_, rfl, rfl⟩, ⟨_, rfl, rfl⟩⟩
  refine (h1.fold (pts l)).congr fun p => ⟨fun hp => ?_, .inr⟩
  rcases hp with rfl | hp
  · have hk := may_first h hl
    unfold pts
    rw [List.mem_flatMap]
    exact ⟨l[0], List.getElem_mem hl, by unfold ptS; simp [hk]⟩
  · exact hp

theorem ptS_sgE (e : Ed) : ptS (sgE e) = ptE e := by
  unfold ptS ptE sgE
  cases e.bent <;> simp
theorem pts_pathOf (cs : List Ct) : pts (pathOf cs) = cs.flatMap ptC := by
  induction cs with
  | nil => rfl
  | cons c cs ih =>
    have h1 : pathOf (c :: cs) = pathC c ++ pathOf cs := by simp [pathOf]
    have h2 : pts (pathC c) = ptC c := by
      unfold pts pathC ptC
      rw [List.flatMap_cons, List.flatMap_append]
      have h3 : (c.es.map sgE).flatMap ptS = c.es.flatMap ptE := by
        rw [List.flatMap_map]; congr 1; funext e; exact ptS_sgE e
      have h4 : (clL c.shut).flatMap ptS = [] := by cases c.shut <;> simp [clL, ptS]
      rw [h3, h4]; simp [ptS]
    have h5 : pts (pathC c ++ pathOf cs) = pts (pathC c) ++ pts (pathOf cs) := by simp [pts]
    rw [h1, h5, h2, ih, List.flatMap_cons]
theorem mem_ptE {e : Ed} {p : Int × Int} : p ∈ ptE e ↔ (e.bent = true ∧ p = (e.cx, e.cy)) ∨ p = (e.x1, e.y1) := by
  unfold ptE; cases e.bent <;> simp
theorem turn_pts : ∀ (es : List Ed) (x y : Int), chain x y es → ∀ p : Int × Int,
    (p = (endX x es, endY y es) ∨ ∃ e ∈ es, (e.bent = true ∧ p = (e.cx, e.cy)) ∨ p = (e.x0, e.y0)) ↔ (p = (x, y) ∨ ∃ e ∈ es, (e.bent = true ∧ p = (e.cx, e.cy)) ∨ p = (e.x1, e.y1))
  | [], x, y, _, p => by simp [endX, endY]
  | e :: es, x, y, ⟨hx, hy, hc⟩, p => by
    have ih := turn_pts es e.x1 e.y1 hc p
    rw [endX_cons, endY_cons]
    simp only [List.mem_cons, exists_eq_or_imp]
    rw [hx, hy]
    grind
theorem ptC_turn {c : Ct} (h : GoodC c) (p : Int × Int) : p ∈ ptC (turnC c) ↔ p ∈ ptC c := by
  have := turn_pts c.es c.x c.y h.1 p
  unfold ptC
  rw [List.mem_cons, List.mem_cons, List.mem_flatMap, List.mem_flatMap]
  simp only [mem_ptE]
  simp only [turnC, List.mem_reverse, List.mem_map]
  rw [← this]
  constructor
  · rintro (h | ⟨_, ⟨e, he, rfl⟩, h⟩)
    · exact .inl h
    · exact .inr ⟨e, he, h⟩
  · rintro (h | ⟨e, he, h⟩)
    · exact .inl h
    · exact .inr ⟨flip e, ⟨e, he, rfl⟩, h⟩
theorem boxL_back {l : List Sg} (h : mayB l = true) : boxL (backL l) = boxL l := by
  unfold boxL
  rw [backL_may h, h]
  by_cases h0 : l = []
  · subst h0; rfl
  · have h1 : backL l ≠ [] := fun e => h0 (List.length_eq_zero_iff.1 (by rw [← backL_len h, e]; rfl))
    rw [if_neg (by simp [h1]), if_neg (by simp [h0])]
    have hb := box_is (backL_may h) h1
    have ha := box_is h h0
    have : boxFrom (backL l) = boxFrom l := hb.uniq (ha.congr fun p => by
      have e1 : pts l = (ctsL l).flatMap ptC := by rw [← pts_pathOf, pathOf_ctsL h]
      have e2 : pts (backL l) = ((ctsL l).map turnC).flatMap ptC := by unfold backL; rw [pts_pathOf]
      rw [e1, e2, List.mem_flatMap, List.mem_flatMap]
      constructor
      · rintro ⟨c, hc, hp⟩
        exact ⟨turnC c, List.mem_map.2 ⟨c, hc, rfl⟩, (ptC_turn (ctsL_good l c hc) p).2 hp⟩
      · rintro ⟨d, hd, hp⟩
        obtain ⟨c, hc, rfl⟩ := List.mem_map.1 hd
        exact ⟨c, hc, (ptC_turn (ctsL_good l c hc) p).1 hp⟩)
    rw [this]

end Go.Proofs.Ytbpgehaflbacmaa

/- The plain law of DashBack. -/
namespace Go.Proofs.Ytbpgehaflbacmaa

theorem join_cts {l m : List Sg} (hl : mayB l = true) (hm : mayB m = true) (hlen : l.length + m.length ≤ 300) :
    ∃ J, joinL l m = (J, 0) ∧ J.length ≤ l.length + m.length ∧ mayB J = true ∧ (∀ s ∈ J, s ∈ l ∨ s ∈ m) ∧ (ctsL J = ctsL l ++ ctsL m ∨ ∃ a c, ctsL l = a ++ [c] ∧ bare c = true ∧ ctsL J = a ++ ctsL m) := by
  have el := pathOf_ctsL hl
  have em := pathOf_ctsL hm
  have gl := ctsL_good l
  have gm := ctsL_good m
  have hl' := hl
  have hm' := hm
  rw [← el, mayB_pathOf gl] at hl'
  rw [← em, mayB_pathOf gm] at hm'
  have key : ∀ cs : List Ct, (∀ c ∈ cs, GoodC c) → ends cs = true → (pathOf cs).length ≤ 300 → mayB (pathOf cs) = true ∧ ctsL (pathOf cs) = cs := fun cs g e hn => by
    have h := (mayB_pathOf g).2 ⟨hn, e⟩
    exact ⟨h, ctsL_pathOf g h⟩
  have hj : joinL l m = longL (if lastK l = 1 ∧ m ≠ [] then l.dropLast else l) m := by unfold joinL; rw [if_neg (by simp [hl, hm])]
  rw [hj]
  by_cases hc : lastK l = 1 ∧ m ≠ []
  · rw [if_pos hc]
    have hne : ctsL l ≠ [] := fun e => lastK_ne hc.1 (by rw [← el, e]; rfl)
    obtain ⟨a, c, hac⟩ := snoc_of_ne _ hne
    have hbc : bare c = true := by
      rw [← lastK_pathC c (pathOf a), ← pathOf_snoc, ← hac, el]; exact hc.1
    have hdl : l.dropLast = pathOf a := by
      conv => lhs; rw [← el, hac, pathOf_snoc, (bare_edges hbc).2]
      simp
    rw [hac] at gl hl'
    have ha := ends_bare a c hl'.2
    have hJ : l.dropLast ++ m = pathOf (a ++ ctsL m) := by rw [pathOf_app, em, hdl]
    have hJl : (l.dropLast ++ m).length ≤ l.length + m.length := by rw [List.length_append, List.length_dropLast]; omega
    obtain ⟨h1, h2⟩ := key (a ++ ctsL m) (fun d hd => (List.mem_append.1 hd).elim (fun h => gl d (by simp [h])) (gm d)) (ends_app a _ ha hm'.2) (by rw [← hJ]; omega)
    refine ⟨l.dropLast ++ m, longL_ok (by rw [List.length_dropLast]; omega), hJl, by rw [hJ]; exact h1, ?_, .inr ⟨a, c, hac, hbc, by rw [hJ]; exact h2⟩⟩
    intro s hs
    rcases List.mem_append.1 hs with h | h
    · exact .inl ((List.dropLast_sublist l).subset h)
    · exact .inr h
  · rw [if_neg hc]
    have hJ : l ++ m = pathOf (ctsL l ++ ctsL m) := by rw [pathOf_app, el, em]
    have hJl : (l ++ m).length ≤ l.length + m.length := by rw [List.length_append]; omega
    have hends : ends (ctsL l ++ ctsL m) = true := by
      by_cases hmn : m = []
      · have : ctsL m = [] := by rw [hmn]; rfl
        rw [this, List.append_nil]; exact hl'.2
      · refine ends_app _ _ (fun d hd => ?_) hm'.2
        have hne : ctsL l ≠ [] := fun e => by rw [e] at hd; simp at hd
        obtain ⟨a, c, hac⟩ := snoc_of_ne _ hne
        rw [hac] at hd hl'
        rcases List.mem_append.1 hd with h | h
        · exact ends_bare a c hl'.2 d h
        · rw [List.mem_singleton] at h; subst h
          cases hb : bare d
          · rfl
          · exact absurd ⟨by rw [← el, hac, pathOf_snoc]; exact (lastK_pathC d _).2 hb, hmn⟩ hc
    obtain ⟨h1, h2⟩ := key (ctsL l ++ ctsL m) (fun d hd => (List.mem_append.1 hd).elim (gl d) (gm d)) hends (by rw [← hJ]; omega)
    exact ⟨l ++ m, longL_ok hlen, hJl, by rw [hJ]; exact h1, fun s hs => List.mem_append.1 hs, .inl (by rw [hJ]; exact h2)⟩
theorem bare_dash {c : Ct} (h : bare c = true) (on : List Int) (f : Int) : dashC on f c = [] := by
  have : piecesC c = [] := by
    simp only [bare, Bool.and_eq_true, Bool.not_eq_true', List.isEmpty_iff] at h
    unfold piecesC; rw [h.1, h.2]; simp
  unfold dashC; rw [this]; exact dashW_none rfl on f
theorem join_dash {l m J : List Sg} (h : ctsL J = ctsL l ++ ctsL m ∨ ∃ a c, ctsL l = a ++ [c] ∧ bare c = true ∧ ctsL J = a ++ ctsL m) (on : List Int) (f : Int) : dashL on f J = dashL on f l ++ dashL on f m := by
  unfold dashL
  rcases h with h | ⟨a, c, h1, h2, h3⟩
  · rw [h, List.flatMap_append]
  · rw [h3, h1, List.flatMap_append, List.flatMap_append]
    simp [bare_dash h2]

/-- A point in a box. -/
def InB (b : Bx) (x y : Int) : Prop := b.x0 ≤ x ∧ x ≤ b.x1 ∧ b.y0 ≤ y ∧ y ≤ b.y1
theorem between_in {L U x0 x1 m k : Int} (h0 : L ≤ x0 ∧ x0 ≤ U) (h1 : L ≤ x1 ∧ x1 ≤ U) (hm : 1 ≤ m) (hk : 0 ≤ k ∧ k ≤ m) : L ≤ rnd (x0 * m + (x1 - x0) * k) m ∧ rnd (x0 * m + (x1 - x0) * k) m ≤ U := by
  have a := Int.mul_le_mul_of_nonneg_right h0.1 (show 0 ≤ m - k by omega)
  have b := Int.mul_le_mul_of_nonneg_right h1.1 hk.1
  have c := Int.mul_le_mul_of_nonneg_right h0.2 (show 0 ≤ m - k by omega)
  have d := Int.mul_le_mul_of_nonneg_right h1.2 hk.1
  have e : x0 * m + (x1 - x0) * k = x0 * (m - k) + x1 * k := by grind
  have e1 : L * (m - k) + L * k = L * m := by grind
  have e2 : U * (m - k) + U * k = U * m := by grind
  rw [e]
  exact rnd_between _ _ _ _ (by omega) (by omega) (by omega)
theorem at_in {b : Bx} : ∀ {ps : List Ed} {s : Int}, (∀ e ∈ ps, InB b e.x0 e.y0 ∧ InB b e.x1 e.y1 ∧ 1 ≤ lenE e) → ps ≠ [] → 0 ≤ s → s ≤ sumL ps → InB b (atW ps s).1 (atW ps s).2
  | [], _, _, h, _, _ => absurd rfl h
  | e :: l, s, h, _, h0, h1 => by
    obtain ⟨⟨a1, a2, a3, a4⟩, ⟨b1, b2, b3, b4⟩, hl⟩ := h e (by simp)
    unfold atW
    by_cases hs : s ≤ lenE e
    · rw [if_pos hs]
      have hx := between_in (x0 := e.x0) (x1 := e.x1) (k := s) ⟨a1, a2⟩ ⟨b1, b2⟩ hl ⟨h0, hs⟩
      have hy := between_in (x0 := e.y0) (x1 := e.y1) (k := s) ⟨a3, a4⟩ ⟨b3, b4⟩ hl ⟨h0, hs⟩
      exact ⟨hx.1, hx.2, hy.1, hy.2⟩
    · rw [if_neg hs]
      simp only [sumL] at h1
      refine at_in (fun d hd => h d (by simp [hd])) ?_ (by omega) (by omega)
      rintro rfl
      simp only [sumL] at h1; omega
theorem part_in {b : Bx} {ps : List Ed} {u v : Int} (h : ∀ e ∈ ps, InB b e.x0 e.y0 ∧ InB b e.x1 e.y1 ∧ 1 ≤ lenE e) (hne : ps ≠ []) (hu : 0 ≤ u ∧ u ≤ sumL ps) (hv : 0 ≤ v ∧ v ≤ sumL ps) : ∀ s ∈ partW ps u v, InB b s.x s.y := by
  intro s hs
  unfold partW at hs
  rw [List.mem_cons, List.mem_append, List.mem_singleton] at hs
  rcases hs with rfl | hs | rfl
  · exact at_in h hne hu.1 hu.2
  · have : ∀ (l : List Ed) (t : Int), (∀ e ∈ l, InB b e.x1 e.y1) → ∀ s ∈ innF t l u v, InB b s.x s.y := by
      intro l
      induction l with
      | nil => intro t _ s hs; simp [innF] at hs
      | cons e l ih =>
        intro t hl s hs
        simp only [innF, List.mem_append] at hs
        rcases hs with hs | hs
        · unfold innE at hs
          split at hs
          · rw [List.mem_singleton] at hs; subst hs; exact hl e (by simp)
          · simp at hs
        · exact ih _ (fun d hd => hl d (by simp [hd])) s hs
    exact this ps 0 (fun e he => (h e he).2.1) s hs
  · exact at_in h hne hv.1 hv.2
theorem dash_in {b : Bx} {ps : List Ed} {on : List Int} (hr : Row on) (f : Int) (h : ∀ e ∈ ps, InB b e.x0 e.y0 ∧ InB b e.x1 e.y1 ∧ 1 ≤ lenE e) : ∀ s ∈ dashW on f ps, InB b s.x s.y := by
  intro s hs
  unfold dashW dashTo at hs
  rw [List.mem_flatMap] at hs
  obtain ⟨j, _, hs⟩ := hs
  unfold dashAt at hs
  have hst := (hr.step j).1
  split at hs
  · rename_i hc
    refine part_in h ?_ (by omega) (by omega) s hs
    rintro rfl
    simp only [sumL] at hc; omega
  · simp at hs
theorem chain_pts : ∀ (es : List Ed) (x y : Int), chain x y es → (∀ e ∈ es, (e.x0 = x ∧ e.y0 = y) ∨ ∃ d ∈ es, e.x0 = d.x1 ∧ e.y0 = d.y1) ∧ ((endX x es = x ∧ endY y es = y) ∨ ∃ d ∈ es, endX x es = d.x1 ∧ endY y es = d.y1)
  | [], x, y, _ => ⟨fun e he => by simp at he, .inl ⟨rfl, rfl⟩⟩
  | e :: es, x, y, h => by
    obtain ⟨hx, hy, hc⟩ : e.x0 = x ∧ e.y0 = y ∧ chain e.x1 e.y1 es := h
    obtain ⟨h1, h2⟩ := chain_pts es e.x1 e.y1 hc
    constructor
    · intro d hd
      rcases List.mem_cons.1 hd with rfl | hd
      · exact .inl ⟨hx, hy⟩
      · right
        rcases h1 d hd with h | ⟨g, hg, h⟩
        · exact ⟨e, by simp, h⟩
        · exact ⟨g, by simp [hg], h⟩
    · right
      rw [endX_cons, endY_cons]
      rcases h2 with h | ⟨g, hg, h⟩
      · exact ⟨e, by simp, h⟩
      · exact ⟨g, by simp [hg], h⟩
theorem pieces_pts {c : Ct} (h : GoodC c) : ∀ e ∈ piecesC c, (e.x0, e.y0) ∈ ptC c ∧ (e.x1, e.y1) ∈ ptC c := by
  obtain ⟨h1, h2⟩ := chain_pts c.es c.x c.y h.1
  have hend : ∀ d ∈ c.es, (d.x1, d.y1) ∈ ptC c := fun d hd => by
    unfold ptC
    rw [List.mem_cons, List.mem_flatMap]
    exact .inr ⟨d, hd, mem_ptE.2 (.inr rfl)⟩
  have hst : (c.x, c.y) ∈ ptC c := by unfold ptC; simp
  intro e he
  unfold piecesC at he
  rw [List.mem_append, List.mem_filter] at he
  rcases he with he | he
  · refine ⟨?_, hend e he.1⟩
    rcases h1 e he.1 with ⟨a, b⟩ | ⟨d, hd, a, b⟩
    · rw [a, b]; exact hst
    · rw [a, b]; exact hend d hd
  · split at he
    · rw [List.mem_singleton] at he
      subst he
      refine ⟨?_, hst⟩
      show (endX c.x c.es, endY c.y c.es) ∈ ptC c
      rcases h2 with ⟨a, b⟩ | ⟨d, hd, a, b⟩
      · rw [a, b]; exact hst
      · rw [a, b]; exact hend d hd
    · simp at he
/-- What is drawn lies within the path's box. -/
theorem box_in {J D : List Sg} {on : List Int} {f : Int} {b : Bx} (hJ : mayB J = true) (hb : ∀ s ∈ J, s.kind ≠ 3) (hr : Row on) (hD : D = dashL on f J) (hbox : boxL D = (b, true)) :
    ∃ b0, boxL J = (b0, true) ∧ b0.x0 ≤ b.x0 ∧ b0.y0 ≤ b.y0 ∧ b.x1 ≤ b0.x1 ∧ b.y1 ≤ b0.y1 := by
  have hDn : ¬ (D = [] ∨ mayB D = false) := by
    intro h; unfold boxL at hbox; rw [if_pos h] at hbox; cases hbox
  have hD0 : D ≠ [] := fun h => hDn (.inl h)
  have hDm : mayB D = true := by cases hh : mayB D; exact absurd (.inr hh) hDn; rfl
  have hJ0 : J ≠ [] := by
    rintro rfl
    exact hD0 (by rw [hD]; rfl)
  have hbJ : boxL J = (boxFrom J, true) := by unfold boxL; rw [if_neg (by simp [hJ0, hJ])]
  have hbD : b = boxFrom D := by
    unfold boxL at hbox; rw [if_neg hDn] at hbox; exact (Prod.mk.inj hbox).1.symm
  have iJ := box_is hJ hJ0
  have iD := box_is hDm hD0
  rw [← hbD] at iD
  have hpt : ∀ p ∈ pts J, InB (boxFrom J) p.1 p.2 := fun p hp => iJ.all p hp
  have heJ : pts J = (ctsL J).flatMap ptC := by rw [← pts_pathOf, pathOf_ctsL hJ]
  have hall : ∀ s ∈ D, InB (boxFrom J) s.x s.y := by
    rw [hD]; unfold dashL
    intro s hs
    rw [List.mem_flatMap] at hs
    obtain ⟨c, hc, hs⟩ := hs
    have hg := ctsL_good J c hc
    have hin : ∀ p ∈ ptC c, InB (boxFrom J) p.1 p.2 := fun p hp => hpt p (by rw [heJ, List.mem_flatMap]; exact ⟨c, hc, hp⟩)
    refine dash_in hr f (fun e he => ?_) s hs
    obtain ⟨p1, p2⟩ := pieces_pts hg e he
    obtain ⟨q1, q2⟩ := piecesC_ok hg (ctsL_straight hb c hc) e he
    exact ⟨hin _ p1, hin _ p2, lenE_pos q1.2 q2⟩
  have hkind : ∀ s ∈ D, s.kind ≠ 3 := by
    rw [hD]; unfold dashL dashC dashW dashTo
    intro s hs
    simp only [List.mem_flatMap] at hs
    obtain ⟨c, _, j, _, hs⟩ := hs
    unfold dashAt at hs
    split at hs
    · unfold partW at hs
      rw [List.mem_cons, List.mem_append, List.mem_singleton] at hs
      rcases hs with rfl | hs | rfl
      · simp
      · have : ∀ (l : List Ed) (t u v : Int), ∀ s ∈ innF t l u v, s.kind ≠ 3 := by
          intro l
          induction l with
          | nil => intro t u v s hs; simp [innF] at hs
          | cons e l ih =>
            intro t u v s hs
            simp only [innF, List.mem_append] at hs
            rcases hs with hs | hs
            · unfold innE at hs
              split at hs
              · rw [List.mem_singleton] at hs; subst hs; simp
              · simp at hs
            · exact ih _ _ _ s hs
        exact this _ _ _ _ s hs
      · simp
    · simp at hs
  have hpD : ∀ p ∈ pts D, InB (boxFrom J) p.1 p.2 := by
    intro p hp
    unfold pts at hp
    rw [List.mem_flatMap] at hp
    obtain ⟨s, hs, hp⟩ := hp
    have := hall s hs
    unfold ptS at hp
    split at hp
    · simp at hp
    · rw [if_neg (hkind s hs)] at hp
      simp at hp; subst hp; exact this
  obtain ⟨_, ⟨p0, q0, e0⟩, ⟨p1, q1, e1⟩, ⟨p2, q2, e2⟩, ⟨p3, q3, e3⟩⟩ := iD
  have a0 := hpD _ q0
  have a1 := hpD _ q1
  have a2 := hpD _ q2
  have a3 := hpD _ q3
  exact ⟨boxFrom J, hbJ, by rw [← e0]; exact a0.1, by rw [← e2]; exact a2.2.2.1, by rw [← e1]; exact a1.2.1, by rw [← e3]; exact a3.2.2.2⟩
/-- The three results. -/
theorem back_cut {l m J : List Sg} {on : List Int} {f : Int} (hne : on ≠ []) (hd : dashL on f J = dashL on f l ++ dashL on f m) :
    (cutL on f J = ([], 5) ∧ 300 < (dashL on f l ++ dashL on f m).length) ∨ (cutL on f J = (dashL on f l ++ dashL on f m, 0) ∧ cutL on f l = (dashL on f l, 0) ∧ cutL on f m = (dashL on f m, 0) ∧ (dashL on f l ++ dashL on f m).length ≤ 300) := by
  by_cases h : 300 < (dashL on f l ++ dashL on f m).length
  · left
    exact ⟨by unfold cutL; rw [if_neg hne, hd, if_pos h], h⟩
  · right
    have h2 := h
    rw [List.length_append] at h2
    exact ⟨by rw [cutL_all hne (by rw [hd]; omega), hd], cutL_all hne (by omega), cutL_all hne (by omega), by omega⟩

end Go.Proofs.Ytbpgehaflbacmaa

/- Wider strokes, other ends and corners; joined paths: plainly. -/
namespace Go.Proofs.Ytbpgehaflbacmaa

theorem disc_mono {a b w v x y : Int} (h0 : 0 ≤ w) (h1 : w ≤ v) (h : DiscP a b w x y) : DiscP a b v x y := by
  have := sq_le h0 h1
  unfold DiscP at *; omega
theorem square_mono {a b w v x y : Int} (h1 : w ≤ v) (h : SquareP a b w x y) : SquareP a b v x y := by
  unfold SquareP at *; omega
theorem wide_mono {w v L : Int} (h0 : 0 ≤ w) (h1 : w ≤ v) (hL : 0 ≤ L) : w * w * L ≤ v * v * L := Int.mul_le_mul_of_nonneg_right (sq_le h0 h1) hL
/-- A style that covers more. -/
structure More (s t : Sy) : Prop where
  w0 : 0 ≤ s.wide
  w : s.wide ≤ t.wide
  j : s.join = 1 → t.join = 1
  c : s.cap = t.cap ∨ s.cap = 0
theorem dot_mono {c : Ct} {s t : Sy} {x y : Int} (m : More s t) (h : DotP c s x y) : DotP c t x y := by
  unfold DotP at *
  rcases h with ⟨a, b⟩ | ⟨a, b⟩
  · exact .inl ⟨by rcases m.c with h | h <;> omega, disc_mono m.w0 m.w b⟩
  · exact .inr ⟨by rcases m.c with h | h <;> omega, square_mono m.w b⟩
theorem covAt_mono {shut : Bool} {s t : Sy} {ps : List Ed} {i : Nat} {e : Ed} {x y : Int} (m : More s t) (h : CovAt shut s ps i e x y) : CovAt shut t ps i e x y := by
  have hw := wide_mono m.w0 m.w (sqE_nonneg e)
  unfold CovAt OnP AheadP BehindP at *
  rcases h with ⟨a, b⟩ | ⟨a, b, c, d, e⟩ | ⟨a, b, c, d, e⟩ | ⟨a, b⟩ | ⟨⟨a, b, c⟩, d⟩
  · exact .inl ⟨by omega, b⟩
  · exact .inr (.inl ⟨a, b, by rcases m.c with h | h <;> omega, by omega, e.1, by omega⟩)
  · exact .inr (.inr (.inl ⟨a, b, by rcases m.c with h | h <;> omega, by omega, e.1, by omega⟩))
  · refine .inr (.inr (.inr (.inl ⟨?_, disc_mono m.w0 m.w b⟩)))
    rcases a with ⟨a1, a2, a3⟩ | ⟨a1, a2⟩
    · exact .inl ⟨a1, a2, by rcases m.c with h | h <;> omega⟩
    · exact .inr ⟨a1, m.j a2⟩
  · exact .inr (.inr (.inr (.inr ⟨⟨a, b, by rcases m.c with h | h <;> omega⟩, disc_mono m.w0 m.w d⟩)))
theorem covC_mono {c : Ct} {s t : Sy} {x y : Int} (m : More s t) (h : CovC c s x y) : CovC c t x y := by
  rcases h with ⟨a, b, d⟩ | ⟨i, hi, h⟩
  · exact .inl ⟨a, b, dot_mono m d⟩
  · exact .inr ⟨i, hi, covAt_mono m h⟩
theorem covL_mono {l : List Sg} {s t : Sy} {x y : Int} (m : More s t) (h : covL l s x y = true) : covL l t x y = true := by
  rw [covL_iff] at h ⊢
  obtain ⟨c, hc, h⟩ := h
  exact ⟨c, hc, covC_mono m h⟩
theorem bare_cov {c : Ct} (h : bare c = true) (s : Sy) (x y : Int) : ¬ CovC c s x y := by
  simp only [bare, Bool.and_eq_true, List.isEmpty_iff, Bool.not_eq_true'] at h
  have hp : piecesC c = [] := by unfold piecesC; rw [h.1, h.2]; rfl
  rintro (⟨_, h2, _⟩ | ⟨i, hi, _⟩)
  · rw [h.1, h.2] at h2; simp at h2
  · rw [hp] at hi; simp at hi
theorem covL_join {l m J : List Sg} (h : ctsL J = ctsL l ++ ctsL m ∨ ∃ a c, ctsL l = a ++ [c] ∧ bare c = true ∧ ctsL J = a ++ ctsL m) (s : Sy) (x y : Int) : covL J s x y = (covL l s x y || covL m s x y) := by
  rw [Bool.eq_iff_iff, Bool.or_eq_true, covL_iff, covL_iff, covL_iff]
  rcases h with h | ⟨a, c, h1, h2, h3⟩
  · rw [h]
    constructor
    · rintro ⟨d, hd, hc⟩
      rcases List.mem_append.1 hd with hd | hd
      · exact .inl ⟨d, hd, hc⟩
      · exact .inr ⟨d, hd, hc⟩
    · rintro (⟨d, hd, hc⟩ | ⟨d, hd, hc⟩)
      · exact ⟨d, List.mem_append_left _ hd, hc⟩
      · exact ⟨d, List.mem_append_right _ hd, hc⟩
  · rw [h1, h3]
    constructor
    · rintro ⟨d, hd, hc⟩
      rcases List.mem_append.1 hd with hd | hd
      · exact .inl ⟨d, List.mem_append_left _ hd, hc⟩
      · exact .inr ⟨d, hd, hc⟩
    · rintro (⟨d, hd, hc⟩ | ⟨d, hd, hc⟩)
      · rcases List.mem_append.1 hd with hd | hd
        · exact ⟨d, List.mem_append_left _ hd, hc⟩
        · rw [List.mem_singleton] at hd; subst hd; exact absurd hc (bare_cov h2 s x y)
      · exact ⟨d, List.mem_append_right _ hd, hc⟩
end Go.Proofs.Ytbpgehaflbacmaa

/- A stroke lies within the box of its path and the width round it: plainly. -/
namespace Go.Proofs.Ytbpgehaflbacmaa

theorem abs_le_of_sq {a b : Int} (hb : 0 ≤ b) (h : a * a ≤ b * b) : -b ≤ a ∧ a ≤ b := by
  constructor
  · apply Decidable.byContradiction; intro hc
    have := sq_le (a := b + 1) (b := -a) (by omega) (by omega)
    rw [Int.neg_mul_neg] at this
    have : (b + 1) * (b + 1) = b * b + 2 * b + 1 := by grind
    omega
  · apply Decidable.byContradiction; intro hc
    have := sq_le (a := b + 1) (b := a) (by omega) (by omega)
    have : (b + 1) * (b + 1) = b * b + 2 * b + 1 := by grind
    omega
/-- How far something off reaches in one direction. -/
theorem reach {k w L d : Int} (hw : 0 ≤ w) (hL : 0 ≤ L) (hk : 4 * (k * k) ≤ w * w * L) (hd : d * d ≤ L) : -(w * L) ≤ 2 * (k * d) ∧ 2 * (k * d) ≤ w * L := by
  refine abs_le_of_sq (Int.mul_nonneg hw hL) ?_
  have h1 : 4 * (k * k) * (d * d) ≤ w * w * L * (d * d) := Int.mul_le_mul_of_nonneg_right hk (sq_nonneg d)
  have h2 : w * w * L * (d * d) ≤ w * w * L * L := Int.mul_le_mul_of_nonneg_left hd (Int.mul_nonneg (sq_nonneg w) hL)
  have e1 : 2 * (k * d) * (2 * (k * d)) = 4 * (k * k) * (d * d) := by grind
  have e2 : w * L * (w * L) = w * w * L * L := by grind
  omega
theorem div_le {L a b : Int} (hL : 1 ≤ L) (h : L * a ≤ L * b) : a ≤ b := Int.le_of_mul_le_mul_left h (by omega)
theorem on_near {e : Ed} {w x y : Int} (hw : 0 ≤ w) (hL : 1 ≤ sqE e) (h : OnP e w x y) :
    min e.x0 e.x1 - w ≤ x ∧ x ≤ max e.x0 e.x1 + w ∧ min e.y0 e.y1 - w ≤ y ∧ y ≤ max e.y0 e.y1 + w := by
  obtain ⟨hk, h0, h1⟩ := h
  obtain ⟨dx, hdx⟩ : ∃ dx, dx = e.x1 - e.x0 := ⟨_, rfl⟩
  obtain ⟨dy, hdy⟩ : ∃ dy, dy = e.y1 - e.y0 := ⟨_, rfl⟩
  obtain ⟨vx, hvx⟩ : ∃ vx, vx = x - e.x0 := ⟨_, rfl⟩
  obtain ⟨vy, hvy⟩ : ∃ vy, vy = y - e.y0 := ⟨_, rfl⟩
  have hS : sqE e = dx * dx + dy * dy := by unfold sqE; rw [hdx, hdy]
  have hU : armU e x y = vx * dx + vy * dy := by unfold armU; rw [hdx, hdy, hvx, hvy]
  have hK : armK e x y = vx * dy - vy * dx := by unfold armK; rw [hdx, hdy, hvx, hvy]
  obtain ⟨L, hLL⟩ : ∃ L, L = sqE e := ⟨_, rfl⟩
  obtain ⟨u, hu⟩ : ∃ u, u = armU e x y := ⟨_, rfl⟩
  obtain ⟨k, hkk⟩ : ∃ k, k = armK e x y := ⟨_, rfl⟩
  rw [← hLL] at hk h1 hL hS
  rw [← hu] at h0 h1 hU
  rw [← hkk] at hk hK
  have i1 : L * vx = u * dx + k * dy := by rw [hS, hU, hK]; grind
  have i2 : L * vy = u * dy - k * dx := by rw [hS, hU, hK]; grind
  obtain ⟨r1, r2⟩ := reach hw (by omega) hk (show dy * dy ≤ L by have := sq_nonneg dx; omega)
  obtain ⟨r3, r4⟩ := reach hw (by omega) hk (show dx * dx ≤ L by have := sq_nonneg dy; omega)
  have hmul : ∀ d : Int, L * min d 0 ≤ u * d ∧ u * d ≤ L * max d 0 := by
    intro d
    rcases Int.le_total 0 d with h | h
    · rw [Int.min_eq_right h, Int.max_eq_left h]
      exact ⟨by rw [Int.mul_zero]; exact Int.mul_nonneg h0 h, Int.mul_le_mul_of_nonneg_right h1 h⟩
    · rw [Int.min_eq_left h, Int.max_eq_right h]
      exact ⟨Int.mul_le_mul_of_nonpos_right h1 h, by rw [Int.mul_zero]; exact Int.mul_nonpos_of_nonneg_of_nonpos h0 h⟩
  obtain ⟨m1, m2⟩ := hmul dx
  obtain ⟨m3, m4⟩ := hmul dy
  have hc : w * L = L * w := Int.mul_comm _ _
  have a1 : 2 * vx ≤ 2 * max dx 0 + w := div_le hL (by have e1 : L * (2 * vx) = 2 * (L * vx) := by grind
                                                       have e2 : L * (2 * max dx 0 + w) = 2 * (L * max dx 0) + L * w := by grind
                                                       omega)
  have a2 : 2 * min dx 0 - w ≤ 2 * vx := div_le hL (by have e1 : L * (2 * vx) = 2 * (L * vx) := by grind
                                                       have e2 : L * (2 * min dx 0 - w) = 2 * (L * min dx 0) - L * w := by grind
                                                       omega)
  have a3 : 2 * vy ≤ 2 * max dy 0 + w := div_le hL (by have e1 : L * (2 * vy) = 2 * (L * vy) := by grind
                                                       have e2 : L * (2 * max dy 0 + w) = 2 * (L * max dy 0) + L * w := by grind
                                                       omega)
  have a4 : 2 * min dy 0 - w ≤ 2 * vy := div_le hL (by have e1 : L * (2 * vy) = 2 * (L * vy) := by grind
                                                       have e2 : L * (2 * min dy 0 - w) = 2 * (L * min dy 0) - L * w := by grind
                                                       omega)
  omega
/-- A point that is neither farther along nor farther off than half the width. -/
theorem end_near {L u k w dx dy vx vy : Int} (hw : 0 ≤ w) (hL : 1 ≤ L) (hS : L = dx * dx + dy * dy) (hU : u = vx * dx + vy * dy) (hK : k = vx * dy - vy * dx) (hk : 4 * (k * k) ≤ w * w * L) (hu : 4 * (u * u) ≤ w * w * L) :
    -w ≤ vx ∧ vx ≤ w ∧ -w ≤ vy ∧ vy ≤ w := by
  have i1 : L * vx = u * dx + k * dy := by rw [hS, hU, hK]; grind
  have i2 : L * vy = u * dy - k * dx := by rw [hS, hU, hK]; grind
  have hx : dx * dx ≤ L := by have := sq_nonneg dy; omega
  have hy : dy * dy ≤ L := by have := sq_nonneg dx; omega
  obtain ⟨r1, r2⟩ := reach hw (by omega) hk hy
  obtain ⟨r3, r4⟩ := reach hw (by omega) hk hx
  obtain ⟨s1, s2⟩ := reach hw (by omega) hu hx
  obtain ⟨s3, s4⟩ := reach hw (by omega) hu hy
  have hc : w * L = L * w := Int.mul_comm _ _
  have hn : L * -w = -(L * w) := by grind
  exact ⟨div_le hL (by omega), div_le hL (by omega), div_le hL (by omega), div_le hL (by omega)⟩
theorem ahead_near {e : Ed} {w x y : Int} (hw : 0 ≤ w) (hL : 1 ≤ sqE e) (h : AheadP e w x y) : e.x0 - w ≤ x ∧ x ≤ e.x0 + w ∧ e.y0 - w ≤ y ∧ y ≤ e.y0 + w := by
  obtain ⟨hk, _, hu⟩ := h
  have := end_near (vx := x - e.x0) (vy := y - e.y0) hw hL rfl rfl rfl hk hu
  omega
theorem behind_near {e : Ed} {w x y : Int} (hw : 0 ≤ w) (hL : 1 ≤ sqE e) (h : BehindP e w x y) : e.x1 - w ≤ x ∧ x ≤ e.x1 + w ∧ e.y1 - w ≤ y ∧ y ≤ e.y1 + w := by
  obtain ⟨hk, _, hu⟩ := h
  have := end_near (vx := x - e.x1) (vy := y - e.y1) (dx := e.x1 - e.x0) (dy := e.y1 - e.y0) hw hL rfl (u := armU e x y - sqE e) (by unfold armU sqE; grind) (k := armK e x y) (by unfold armK; grind) hk hu
  omega
theorem disc_near {a b w x y : Int} (hw : 0 ≤ w) (h : DiscP a b w x y) : a - w ≤ x ∧ x ≤ a + w ∧ b - w ≤ y ∧ y ≤ b + w := by
  unfold DiscP at h
  have h1 := sq_nonneg (x - a)
  have h2 := sq_nonneg (y - b)
  have a1 := abs_le_of_sq hw (show (x - a) * (x - a) ≤ w * w by omega)
  have a2 := abs_le_of_sq hw (show (y - b) * (y - b) ≤ w * w by omega)
  omega
theorem square_near {a b w x y : Int} (h : SquareP a b w x y) : a - w ≤ x ∧ x ≤ a + w ∧ b - w ≤ y ∧ y ≤ b + w := by
  unfold SquareP at h; omega
/-- What is near a point of a box is near the box. -/
theorem moved_sq {e : Ed} (h : moved e = true) : 1 ≤ sqE e := by
  simp only [moved, Bool.or_eq_true, Bool.not_eq_true', beq_eq_false_iff_ne, ne_eq] at h
  have h1 := sq_nonneg (e.x1 - e.x0)
  have h2 := sq_nonneg (e.y1 - e.y0)
  unfold sqE
  rcases h with h | h
  · have := sq_pos (a := e.x1 - e.x0) (by omega); omega
  · have := sq_pos (a := e.y1 - e.y0) (by omega); omega
theorem pieces_moved {c : Ct} : ∀ e ∈ piecesC c, moved e = true := by
  intro e he
  unfold piecesC at he
  rw [List.mem_append, List.mem_filter] at he
  rcases he with he | he
  · exact he.2
  · split at he
    · rename_i hh
      rw [List.mem_singleton] at he; subst he
      simp only [Bool.and_eq_true] at hh; exact hh.2
    · simp at he
theorem cov_box {l : List Sg} {s : Sy} {x y : Int} (hm : mayB l = true) (hw : 0 ≤ s.wide) (h : covL l s x y = true) :
    ∃ b, boxL l = (b, true) ∧ b.x0 - s.wide ≤ x ∧ x ≤ b.x1 + s.wide ∧ b.y0 - s.wide ≤ y ∧ y ≤ b.y1 + s.wide := by
  rw [covL_iff] at h
  obtain ⟨c, hc, h⟩ := h
  have hl0 : l ≠ [] := by
    rintro rfl
    have : ctsL [] = [] := rfl
    rw [this] at hc; simp at hc
  have hbl : boxL l = (boxFrom l, true) := by unfold boxL; rw [if_neg (by simp [hl0, hm])]
  have hib := box_is hm hl0
  have hpt : ∀ p ∈ ptC c, InB (boxFrom l) p.1 p.2 := fun p hp => hib.all p (by
    have : pts l = (ctsL l).flatMap ptC := by rw [← pts_pathOf, pathOf_ctsL hm]
    rw [this, List.mem_flatMap]; exact ⟨c, hc, hp⟩)
  have hst : InB (boxFrom l) c.x c.y := hpt (c.x, c.y) (by unfold ptC; simp)
  refine ⟨boxFrom l, hbl, ?_⟩
  rcases h with ⟨_, _, h | h⟩ | ⟨i, hi, h⟩
  · have := disc_near hw h.2
    unfold InB at hst; omega
  · have := square_near h.2
    unfold InB at hst; omega
  · have hmem := List.getElem_mem hi
    obtain ⟨p1, p2⟩ := pieces_pts (ctsL_good l c hc) _ hmem
    have q1 := hpt _ p1
    have q2 := hpt _ p2
    have hsq := moved_sq (pieces_moved _ hmem)
    unfold InB at q1 q2
    simp only at q1 q2
    rcases h with h | ⟨_, _, _, h⟩ | ⟨_, _, _, h⟩ | ⟨_, h⟩ | ⟨_, h⟩
    · have := on_near hw hsq h; omega
    · have := ahead_near hw hsq h; omega
    · have := behind_near hw hsq h; omega
    · have := disc_near hw h; omega
    · have := disc_near hw h; omega
theorem ptC_co {c : Ct} (hg : GoodC c) : ∀ p ∈ ptC c, co p.1 = true ∧ co p.2 = true := by
  intro p hp
  unfold ptC at hp
  rw [List.mem_cons, List.mem_flatMap] at hp
  rcases hp with rfl | ⟨e, he, hp⟩
  · exact ⟨hg.2.2.1, hg.2.2.2⟩
  · obtain ⟨a, b, c, d, f, g, _⟩ := edOK_iff.1 (hg.2.1 e he)
    rcases mem_ptE.1 hp with ⟨_, rfl⟩ | rfl
    · exact ⟨co_iff.2 c, co_iff.2 d⟩
    · exact ⟨co_iff.2 f, co_iff.2 g⟩
theorem box_bd {l : List Sg} {b : Bx} (hm : mayB l = true) (h : boxL l = (b, true)) :
    -8191 ≤ b.x0 ∧ b.x0 ≤ 8191 ∧ -8191 ≤ b.x1 ∧ b.x1 ≤ 8191 ∧ -8191 ≤ b.y0 ∧ b.y0 ≤ 8191 ∧ -8191 ≤ b.y1 ∧ b.y1 ≤ 8191 := by
  have hl0 : l ≠ [] := by rintro rfl; cases h
  have hbl : b = boxFrom l := by
    unfold boxL at h; rw [if_neg (by simp [hl0, hm])] at h; exact (Prod.mk.inj h).1.symm
  have hib := box_is hm hl0
  rw [← hbl] at hib
  have hco : ∀ p ∈ pts l, (-8191 ≤ p.1 ∧ p.1 ≤ 8191) ∧ (-8191 ≤ p.2 ∧ p.2 ≤ 8191) := by
    intro p hp
    have he : pts l = (ctsL l).flatMap ptC := by rw [← pts_pathOf, pathOf_ctsL hm]
    rw [he, List.mem_flatMap] at hp
    obtain ⟨c, hc, hp⟩ := hp
    obtain ⟨h1, h2⟩ := ptC_co (ctsL_good l c hc) p hp
    exact ⟨co_iff.1 h1, co_iff.1 h2⟩
  obtain ⟨p1, h1, e1⟩ := hib.x0
  obtain ⟨p2, h2, e2⟩ := hib.x1
  obtain ⟨p3, h3, e3⟩ := hib.y0
  obtain ⟨p4, h4, e4⟩ := hib.y1
  have a1 := hco p1 h1
  have a2 := hco p2 h2
  have a3 := hco p3 h3
  have a4 := hco p4 h4
  omega
end Go.Proofs.Ytbpgehaflbacmaa

/- The stroke of one straight piece: plainly. Level and upright pieces. -/
namespace Go.Proofs.Ytbpgehaflbacmaa

/-- A path of one piece. -/
def oneL (a b c d : Int) : List Sg := [⟨1, a, b, 0, 0⟩, ⟨2, c, d, 0, 0⟩]
def oneE (a b c d : Int) : Ed := ⟨a, b, false, 0, 0, c, d⟩
def oneC (a b c d : Int) : Ct := ⟨a, b, [oneE a b c d], false⟩
theorem oneL_may {a b c d : Int} (ha : co a = true) (hb : co b = true) (hc : co c = true) (hd : co d = true) : mayB (oneL a b c d) = true := by
  have h0 : co 0 = true := by decide
  unfold oneL
  simp only [mayB, mayFrom, rightB, nearB, List.all_cons, List.all_nil, ha, hb, hc, hd, h0]
  rfl
theorem oneL_nobow (a b c d : Int) : ∀ s ∈ oneL a b c d, s.kind ≠ 3 := by simp [oneL]
theorem oneL_cts {a b c d : Int} (ha : co a = true) (hb : co b = true) (hc : co c = true) (hd : co d = true) : ctsL (oneL a b c d) = [oneC a b c d] := by
  unfold ctsL; rw [oneL_may ha hb hc hd]; rfl
theorem oneC_pieces (a b c d : Int) : piecesC (oneC a b c d) = if a = c ∧ b = d then [] else [oneE a b c d] := by
  unfold piecesC oneC
  by_cases h : a = c ∧ b = d
  · rw [if_pos h]; simp [oneE, moved, h.1, h.2]
  · rw [if_neg h]
    have : moved (oneE a b c d) = true := by
      simp only [moved, oneE, Bool.or_eq_true, Bool.not_eq_true', beq_eq_false_iff_ne, ne_eq]
      by_cases h1 : a = c
      · exact .inr fun h2 => h ⟨h1, h2⟩
      · exact .inl h1
    simp [this]
/-- What one piece's stroke covers. -/
def OneP (a b c d : Int) (s : Sy) (x y : Int) : Prop :=
  OnP (oneE a b c d) s.wide x y ∨ (s.cap = 2 ∧ AheadP (oneE a b c d) s.wide x y) ∨ (s.cap = 2 ∧ BehindP (oneE a b c d) s.wide x y) ∨ (s.cap = 1 ∧ DiscP a b s.wide x y) ∨ (s.cap = 1 ∧ DiscP c d s.wide x y)
theorem one_cov {a b c d : Int} (ha : co a = true) (hb : co b = true) (hc : co c = true) (hd : co d = true) (hne : ¬ (a = c ∧ b = d)) (s : Sy) (x y : Int) : covL (oneL a b c d) s x y = true ↔ OneP a b c d s x y := by
  rw [covL_iff, oneL_cts ha hb hc hd]
  have hp : piecesC (oneC a b c d) = [oneE a b c d] := by rw [oneC_pieces, if_neg hne]
  have hC : CovC (oneC a b c d) s x y ↔ CovAt false s [oneE a b c d] 0 (oneE a b c d) x y := by
    unfold CovC
    rw [hp]
    constructor
    · rintro (⟨h, _⟩ | ⟨i, hi, h⟩)
      · cases h
      · obtain rfl : i = 0 := by simpa using hi
        exact h
    · intro h; exact .inr ⟨0, by simp, h⟩
  have : (∃ c' ∈ [oneC a b c d], CovC c' s x y) ↔ CovC (oneC a b c d) s x y := by simp
  rw [this, hC]
  unfold CovAt OneP
  simp [oneE]
theorem one_dot {a b : Int} (ha : co a = true) (hb : co b = true) (s : Sy) (x y : Int) : covL (oneL a b a b) s x y = true ↔ (s.cap = 1 ∧ DiscP a b s.wide x y) ∨ (s.cap = 2 ∧ SquareP a b s.wide x y) := by
  rw [covL_iff, oneL_cts ha hb ha hb]
  have hp : piecesC (oneC a b a b) = [] := by rw [oneC_pieces, if_pos ⟨rfl, rfl⟩]
  have hC : CovC (oneC a b a b) s x y ↔ DotP (oneC a b a b) s x y := by
    unfold CovC
    rw [hp]
    constructor
    · rintro (⟨_, _, h⟩ | ⟨i, hi, h⟩)
      · exact h
      · simp at hi
    · intro h; exact .inl ⟨rfl, .inl (by simp [oneC]), h⟩
  have : (∃ c' ∈ [oneC a b a b], CovC c' s x y) ↔ CovC (oneC a b a b) s x y := by simp
  rw [this, hC]
  rfl

theorem sq_iff {a b m : Int} (hb : 0 ≤ b) (hm : 1 ≤ m) : a * a * m ≤ b * b * m ↔ -b ≤ a ∧ a ≤ b := by
  constructor
  · intro h; exact abs_le_of_sq hb (Int.le_of_mul_le_mul_right h (by omega))
  · intro h
    exact Int.mul_le_mul_of_nonneg_right (sq_bd h).2 (by omega)
/-- Along a level piece. -/
theorem along_iff {a D : Int} (hD : D ≠ 0) : (0 ≤ a * D ↔ (0 < D ∧ 0 ≤ a) ∨ (D < 0 ∧ a ≤ 0)) ∧ (a * D ≤ 0 ↔ (0 < D ∧ a ≤ 0) ∨ (D < 0 ∧ 0 ≤ a)) := by
  rcases Int.lt_or_gt_of_ne hD with h | h
  · constructor <;> constructor
    · intro h1; refine .inr ⟨h, ?_⟩
      apply Decidable.byContradiction; intro hc
      have := Int.mul_neg_of_pos_of_neg (show 0 < a by omega) h; omega
    · rintro (⟨h1, _⟩ | ⟨_, h1⟩)
      · omega
      · exact Int.mul_nonneg_of_nonpos_of_nonpos h1 (by omega)
    · intro h1; refine .inr ⟨h, ?_⟩
      apply Decidable.byContradiction; intro hc
      have := Int.mul_pos_of_neg_of_neg (show a < 0 by omega) h; omega
    · rintro (⟨h1, _⟩ | ⟨_, h1⟩)
      · omega
      · exact Int.mul_nonpos_of_nonneg_of_nonpos h1 (by omega)
  · constructor <;> constructor
    · intro h1; refine .inl ⟨h, ?_⟩
      apply Decidable.byContradiction; intro hc
      have := Int.mul_neg_of_neg_of_pos (show a < 0 by omega) h; omega
    · rintro (⟨_, h1⟩ | ⟨h1, _⟩)
      · exact Int.mul_nonneg h1 (by omega)
      · omega
    · intro h1; refine .inl ⟨h, ?_⟩
      apply Decidable.byContradiction; intro hc
      have := Int.mul_pos (show 0 < a by omega) h; omega
    · rintro (⟨_, h1⟩ | ⟨h1, _⟩)
      · exact Int.mul_nonpos_of_nonpos_of_nonneg h1 (by omega)
      · omega
theorem level_iff {w o a D : Int} (hw : 0 ≤ w) (hD : D ≠ 0) :
    (4 * (o * D * (o * D)) ≤ w * w * (D * D) ↔ -w ≤ 2 * o ∧ 2 * o ≤ w) ∧ (0 ≤ a * D ↔ (0 < D ∧ 0 ≤ a) ∨ (D < 0 ∧ a ≤ 0)) ∧ (a * D ≤ 0 ↔ (0 < D ∧ a ≤ 0) ∨ (D < 0 ∧ 0 ≤ a)) ∧
    (a * D ≤ D * D ↔ (0 < D ∧ a ≤ D) ∨ (D < 0 ∧ D ≤ a)) ∧ (D * D ≤ a * D ↔ (0 < D ∧ D ≤ a) ∨ (D < 0 ∧ a ≤ D)) ∧
    (4 * (a * D * (a * D)) ≤ w * w * (D * D) ↔ -w ≤ 2 * a ∧ 2 * a ≤ w) ∧ (4 * ((a * D - D * D) * (a * D - D * D)) ≤ w * w * (D * D) ↔ -w ≤ 2 * (a - D) ∧ 2 * (a - D) ≤ w) := by
  have h1 : 1 ≤ D * D := sq_pos hD
  have e0 : ∀ z : Int, 4 * (z * D * (z * D)) = 2 * z * (2 * z) * (D * D) := fun z => by grind
  have e1 : (a * D - D * D) = (a - D) * D := by grind
  obtain ⟨b1, b2⟩ := along_iff (a := a - D) hD
  have c1 : a * D ≤ D * D ↔ (a - D) * D ≤ 0 := by rw [← e1]; omega
  have c2 : D * D ≤ a * D ↔ 0 ≤ (a - D) * D := by rw [← e1]; omega
  refine ⟨?_, (along_iff hD).1, (along_iff hD).2, ?_, ?_, ?_, ?_⟩
  · rw [e0]; exact sq_iff hw h1
  · rw [c1, b2]; omega
  · rw [c2, b1]; omega
  · rw [e0]; exact sq_iff hw h1
  · rw [e1, e0]; exact sq_iff hw h1
/-- What a level piece's stroke covers: u along it, d across. -/
theorem lev_cov {w o a D L u k : Int} (hw : 0 ≤ w) (hD : D ≠ 0) (hL : L = D * D) (hu : u = a * D) (hk : k * k = o * D * (o * D)) :
    ((4 * (k * k) ≤ w * w * L ∧ 0 ≤ u ∧ u ≤ L) ↔ (-w ≤ 2 * o ∧ 2 * o ≤ w) ∧ min 0 D ≤ a ∧ a ≤ max 0 D) ∧
    ((4 * (k * k) ≤ w * w * L ∧ 0 ≤ u ∧ u ≤ L) ∨ (4 * (k * k) ≤ w * w * L ∧ u ≤ 0 ∧ 4 * (u * u) ≤ w * w * L) ∨ (4 * (k * k) ≤ w * w * L ∧ L ≤ u ∧ 4 * ((u - L) * (u - L)) ≤ w * w * L) ↔
      (-w ≤ 2 * o ∧ 2 * o ≤ w) ∧ 2 * (min 0 D - a) ≤ w ∧ 2 * (a - max 0 D) ≤ w) := by
  subst hL; subst hu
  rw [hk]
  obtain ⟨h1, h2, h3, h4, h5, h6, h7⟩ := level_iff (o := o) (a := a) hw hD
  rw [h1, h2, h3, h4, h5, h6, h7]
  constructor <;> omega
end Go.Proofs.Ytbpgehaflbacmaa

/- Regions that draw their order and whose callees make memory: one walk, in the text's order. The class of worlds: those that have grown from one. -/
namespace Go.Proofs.Ytbpgehaflbacmaa
open Go.RowKit

/-- A world that has grown from another one. -/
structure Grown (w : World) where
  world : World
  below : Below w.heap.size w world
instance (w : World) : Nonempty (Grown w) := ⟨⟨w, Below.refl _ _⟩⟩
theorem Grown.cell {w : World} (x : Grown w) {b o : Nat} {v : Value} (h : w.cell? ⟨b, o, none⟩ = some v) (hb : b < w.heap.size) : x.world.cell? ⟨b, o, none⟩ = some v := (later_cell x.below hb).trans h
theorem Grown.size {w : World} (x : Grown w) : w.heap.size ≤ x.world.heap.size := x.below.size
theorem wp_region_grown {P : Program} {id : Nat} {Q : Exit → Act → World → Prop} {a : Act} {w : World} {l : List Oper} (hm : P.follows .mixedOrders = true) (hB : Region.lexB .any l.toArray = true)
    (h : wpQuiet P l.toArray (fun w' => ∃ x : Grown w, w' = x.world) (fun a' => ∀ w', (∃ x : Grown w, w' = x.world) → Q .normal a' w') l a) : (Code.region id l.toArray true).wp P Q a w :=
  wp_region_quiet (C := fun w' => ∃ x : Grown w, w' = x.world) hm hB ⟨⟨_, bdrew (Below.refl _ _)⟩, rfl⟩ (by simpa using h)
/-- A callee's contract there. -/
theorem Calls.grown {P : Program} {f : FuncId} {args : Array Value} {w : World} {x : Grown w} {v : Value}
    (h : Calls P f args x.world fun e w' => e = .returned v ∧ Below x.world.heap.size x.world w') : Calls P f args x.world fun e w'' => e = .returned v ∧ ∃ y : Grown w, w'' = y.world :=
  h.mono fun _ _ ⟨he, hb⟩ => ⟨he, ⟨_, btr x.below hb⟩, rfl⟩
theorem Calls.grown_same {P : Program} {f : FuncId} {args : Array Value} {w : World} {x : Grown w} {v : Value}
    (h : Calls P f args x.world fun e w' => e = .returned v ∧ x.world = w') : Calls P f args x.world fun e w'' => e = .returned v ∧ ∃ y : Grown w, w'' = y.world :=
  h.mono fun _ _ ⟨he, hb⟩ => ⟨he, x, hb.symm⟩
end Go.Proofs.Ytbpgehaflbacmaa

/- A mask's bytes, plainly. -/
namespace Go.Proofs.Ytbpgehaflbacmaa

/-- A truth as a byte. -/
def bitB (b : Bool) : Nat := if b then 1 else 0
/-- The bytes of w across and h down: row by row. -/
def maskL (f : Int → Int → Bool) (w h : Nat) : List Nat := (List.range (w * h)).map fun i => bitB (f (16 * ((i % w : Nat) : Int) + 8) (16 * ((i / w : Nat) : Int) + 8))
/-- The first i bytes laid, the rest zero. -/
def maskTo (f : Int → Int → Bool) (w n i : Nat) : List Nat := (List.range i).map (fun i => bitB (f (16 * ((i % w : Nat) : Int) + 8) (16 * ((i / w : Nat) : Int) + 8))) ++ List.replicate (n - i) 0
theorem maskL_len (f : Int → Int → Bool) (w h : Nat) : (maskL f w h).length = w * h := by simp [maskL]
theorem maskTo_len (f : Int → Int → Bool) (w n i : Nat) (h : i ≤ n) : (maskTo f w n i).length = n := by simp [maskTo]; omega
theorem maskTo_zero (f : Int → Int → Bool) (w n : Nat) : maskTo f w n 0 = List.replicate n 0 := by simp [maskTo]
theorem maskTo_all (f : Int → Int → Bool) (w h : Nat) : maskTo f w (w * h) (w * h) = maskL f w h := by simp [maskTo, maskL]
theorem maskTo_succ (f : Int → Int → Bool) (w n i : Nat) (h : i < n) :
    maskTo f w n (i + 1) = (maskTo f w n i).set i (bitB (f (16 * ((i % w : Nat) : Int) + 8) (16 * ((i / w : Nat) : Int) + 8))) := by
  unfold maskTo
  have e : n - i = (n - (i + 1)) + 1 := by omega
  rw [List.range_succ, List.map_append, e, List.replicate_succ]
  have hl : ((List.range i).map fun i => bitB (f (16 * ((i % w : Nat) : Int) + 8) (16 * ((i / w : Nat) : Int) + 8))).length = i := by simp
  rw [List.set_append_right _ _ (by omega), hl, Nat.sub_self]
  simp
/-- A byte that is zero already. -/
theorem maskTo_same (f : Int → Int → Bool) (w n i : Nat) (h : i < n) (hf : f (16 * ((i % w : Nat) : Int) + 8) (16 * ((i / w : Nat) : Int) + 8) = false) : maskTo f w n (i + 1) = maskTo f w n i := by
  unfold maskTo
  have e : n - i = (n - (i + 1)) + 1 := by omega
  rw [List.range_succ, List.map_append, e, List.replicate_succ, List.map_singleton, hf]
  simp [bitB]
theorem maskTo_one (f : Int → Int → Bool) (w n i : Nat) (h : i < n) (hf : f (16 * ((i % w : Nat) : Int) + 8) (16 * ((i / w : Nat) : Int) + 8) = true) : maskTo f w n (i + 1) = (maskTo f w n i).set i 1 := by
  rw [maskTo_succ f w n i h, hf]; rfl
theorem maskL_iff (f g : Int → Int → Bool) (w h : Nat) (he : ∀ x y, f x y = g x y) : maskL f w h = maskL g w h := by
  have : f = g := funext fun x => funext fun y => he x y
  rw [this]
end Go.Proofs.Ytbpgehaflbacmaa

/- A made row of bytes that is written byte by byte. -/
namespace Go.Proofs.Ytbpgehaflbacmaa
open Go.RowKit

/-- Bytes as cells. -/
def bys (l : List Nat) : List Value := l.map fun b : Nat => Value.int .u8 (b : Int)
/-- A whole block of bytes. -/
structure ByRow (w : World) (g n : Nat) (xs : List Nat) : Prop where
  lt : g < w.heap.size
  len : xs.length = n
  nf : ∀ i, w.frozen? ⟨g, i, none⟩ = false
  cell : ∀ (i x : Nat), xs[i]? = some x → w.cell? ⟨g, i, none⟩ = some (.int .u8 (x : Int))
theorem ByRow.below {w w' : World} {g n : Nat} {xs : List Nat} (h : ByRow w g n xs) (hb : Below w.heap.size w w') : ByRow w' g n xs :=
  ⟨Nat.lt_of_lt_of_le h.lt hb.size, h.len, fun i => (later_frozen hb h.lt).trans (h.nf i), fun i x hx => (later_cell hb h.lt).trans (h.cell i x hx)⟩
theorem ByRow.drew {w : World} {g n : Nat} {xs : List Nat} (h : ByRow w g n xs) : ByRow w.drew g n xs := h.below (bdrew (Below.refl _ _))
theorem ByRow.drewN {w : World} {g n : Nat} {xs : List Nat} (h : ByRow w g n xs) (k : Nat) : ByRow (w.drewN k) g n xs := h.below (bdrewN (Below.refl _ _) k)
theorem ByRow.new (w : World) (n : Nat) (t : TypeId) : ByRow (w.alloc (.cells (madeCells #[.int .u8 0] n) t)) w.heap.size n (List.replicate n 0) := by
  refine ⟨by simp, by simp, fun i => frozen_of_row _ _ _ _ _ (heap_alloc_new w _), fun i x hx => ?_⟩
  rw [new_cell]
  rw [List.getElem?_replicate] at hx
  split at hx
  · rename_i hi
    cases hx
    simp [madeCells, hi, Nat.mod_one]
  · cases hx
theorem ByRow.set {w : World} {g n i : Nat} {xs : List Nat} (h : ByRow w g n xs) (hi : i < n) (b : Nat) : ByRow (w.setCell ⟨g, i, none⟩ (.int .u8 (b : Int))) g n (xs.set i b) := by
  have hl : i < xs.length := by rw [h.len]; exact hi
  refine ⟨by simpa [World.setCell] using h.lt, by rw [List.length_set, h.len], fun j => by rw [World.frozen?_setCell]; exact h.nf j, fun j x hx => ?_⟩
  by_cases hij : i = j
  · subst hij
    rw [List.getElem?_set_self hl] at hx
    cases hx
    exact World.cell?_setCell_same _ _ _ (h.cell i _ (List.getElem?_eq_getElem hl))
  · rw [List.getElem?_set_ne hij] at hx
    rw [World.cell?_setCell_other _ _ _ _ (by intro e; injection e; omega)]
    exact h.cell j x hx
theorem ByRow.sl {w : World} {g n : Nat} {xs : List Nat} (h : ByRow w g n xs) : Sl w 1 (some ⟨g, 0, none⟩) n (bys xs) :=
  ⟨by simp [bys, h.len], fun _ => ⟨_, _, rfl, h.lt, fun j u hu => by
    simp only [bys, List.getElem?_map] at hu
    cases hx : xs[j]? with
    | none => rw [hx] at hu; cases hu
    | some x => rw [hx] at hu; cases hu; rw [Nat.zero_add]; exact h.cell j x hx⟩⟩
end Go.Proofs.Ytbpgehaflbacmaa

/- Where an edge of a chain begins: plainly. -/
namespace Go.Proofs.Ytbpgehaflbacmaa

theorem chain_at2 : ∀ (es : List Ed) (x y : Int) (j : Nat) (h : j < es.length), chain x y es → es[j].x0 = endX x (es.take j) ∧ es[j].y0 = endY y (es.take j)
  | e :: es, x, y, 0, _, h => by
    obtain ⟨hx, hy, _⟩ : e.x0 = x ∧ e.y0 = y ∧ chain e.x1 e.y1 es := h
    exact ⟨hx, hy⟩
  | e :: es, x, y, j + 1, hj, h => by
    obtain ⟨_, _, hc⟩ : e.x0 = x ∧ e.y0 = y ∧ chain e.x1 e.y1 es := h
    have := chain_at2 es e.x1 e.y1 j (by simpa using hj) hc
    simpa [endX_cons, endY_cons] using this
end Go.Proofs.Ytbpgehaflbacmaa

/- The reference's drawn, told plainly: a place where two pieces meet. -/
namespace Go.Proofs.Ytbpgehaflbacmaa

theorem filter_chain : ∀ (es : List Ed) (x y : Int), chain x y es → chain x y (es.filter moved) ∧ endX x (es.filter moved) = endX x es ∧ endY y (es.filter moved) = endY y es
  | [], x, y, _ => ⟨trivial, rfl, rfl⟩
  | e :: es, x, y, h => by
    obtain ⟨hx, hy, hc⟩ : e.x0 = x ∧ e.y0 = y ∧ chain e.x1 e.y1 es := h
    obtain ⟨h1, h2, h3⟩ := filter_chain es e.x1 e.y1 hc
    by_cases hm : moved e = true
    · rw [List.filter_cons_of_pos hm]
      exact ⟨⟨hx, hy, h1⟩, by rw [endX_cons, endX_cons, h2], by rw [endY_cons, endY_cons, h3]⟩
    · rw [List.filter_cons_of_neg hm]
      have he : e.x1 = x ∧ e.y1 = y := by
        simp [moved] at hm; omega
      rw [he.1, he.2] at h1
      rw [he.1] at h2
      rw [he.2] at h3
      exact ⟨h1, by rw [endX_cons, h2, he.1], by rw [endY_cons, h3, he.2]⟩
theorem pieces_chain {c : Ct} (h : GoodC c) : chain c.x c.y (piecesC c) := by
  obtain ⟨h1, h2, h3⟩ := filter_chain c.es c.x c.y h.1
  unfold piecesC
  split
  · exact chain_app _ _ _ _ h1 ⟨by rw [h2]; rfl, by rw [h3]; rfl, trivial⟩
  · rw [List.append_nil]; exact h1
/-- Each piece begins where the one before it ends. -/
def Joined (ps : List Ed) : Prop := ∀ (k : Nat) (h : k + 1 < ps.length), ps[k + 1].x0 = (ps[k]'(Nat.lt_of_succ_lt h)).x1 ∧ ps[k + 1].y0 = (ps[k]'(Nat.lt_of_succ_lt h)).y1
theorem chain_joined {ps : List Ed} {x y : Int} (h : chain x y ps) : Joined ps := by
  intro k hk
  obtain ⟨h1, h2⟩ := chain_at2 ps x y (k + 1) hk h
  rw [List.take_succ_eq_append_getElem (by omega), endX_snoc] at h1
  rw [List.take_succ_eq_append_getElem (by omega), endY_snoc] at h2
  exact ⟨h1, h2⟩
theorem pieces_joined {c : Ct} (h : GoodC c) : Joined (piecesC c) := chain_joined (pieces_chain h)
/-- A place at a piece's beginning is the end of the piece before. -/
theorem atW_on {ps : List Ed} (hj : Joined ps) (hp : ∀ e ∈ ps, 1 ≤ lenE e) (k : Nat) (s : Int) (hk : k < ps.length) (h0 : sumL (ps.take k) ≤ s) (h1 : s ≤ sumL (ps.take (k + 1))) :
    atE ps[k] (s - sumL (ps.take k)) = atW ps s := by
  by_cases hc : k = 0 ∨ sumL (ps.take k) < s
  · exact (atW_at ps k s hk (fun h => by omega) h1).symm
  · obtain ⟨j, rfl⟩ : ∃ j, k = j + 1 := ⟨k - 1, by omega⟩
    have hs : s = sumL (ps.take (j + 1)) := by omega
    have hjl : j < ps.length := by omega
    have ht := sumL_take ps j hjl
    have hl := hp ps[j] (List.getElem_mem hjl)
    rw [atW_at ps j s hjl (fun _ => by omega) (by omega)]
    have e1 : s - sumL (ps.take (j + 1)) = 0 := by omega
    have e2 : s - sumL (ps.take j) = lenE ps[j] := by omega
    rw [e1, e2, (atE_ends hl).2, (atE_ends (hp ps[j + 1] (List.getElem_mem hk))).1, (hj j hk).1, (hj j hk).2]
/-- From where on nothing ends before a place. -/
theorem innW_from (ps : List Ed) (k : Nat) (a b : Int) (hb : b ≤ sumL (ps.take (k + 1)) ∨ ps.length ≤ k) : innW ps a b = innW (ps.take k) a b := by
  have hall : ∀ d, k + d ≤ ps.length → innW (ps.take (k + d)) a b = innW (ps.take k) a b := by
    intro d
    induction d with
    | zero => intro _; rfl
    | succ d ih =>
      intro hd
      have hlt : k + d < ps.length := by omega
      rw [← Nat.add_assoc, innW_take ps (k + d) hlt, ih (by omega)]
      have hm : sumL (ps.take (k + 1)) ≤ sumL (ps.take (k + d + 1)) := by
        have := sumL_take_le (ps.take (k + d + 1)) (k + 1)
        rwa [List.take_take, Nat.min_eq_left (by omega)] at this
      have : innE (sumL (ps.take (k + d + 1))) ps[k + d] a b = [] := by
        unfold innE; rw [if_neg (by omega)]
      rw [this, List.append_nil]
  by_cases hk : k ≤ ps.length
  · have := hall (ps.length - k) (by omega)
    rwa [show k + (ps.length - k) = ps.length by omega, List.take_length] at this
  · rw [List.take_of_length_le (by omega)]
theorem innW_before (ps : List Ed) (a b : Int) : ∀ k, k ≤ ps.length → sumL (ps.take k) ≤ a → innW (ps.take k) a b = []
  | 0, _, _ => by simp [innW, innF]
  | k + 1, hk, ha => by
    have ht := sumL_take ps k hk
    have := lenE_nonneg ps[k]
    rw [innW_take ps k hk, innW_before ps a b k (by omega) (by omega)]
    unfold innE; rw [if_neg (by omega)]; rfl

end Go.Proofs.Ytbpgehaflbacmaa

/- The plain side of Shift. -/
namespace Go.Proofs.Ytbpgehaflbacmaa

/-- A piece moved: f to the one side, g to the other. -/
def shS (f g : Int → Int) (s : Sg) : Sg := if s.kind = 4 then s else ⟨s.kind, f s.x, g s.y, if s.kind = 3 then f s.cx else s.cx, if s.kind = 3 then g s.cy else s.cy⟩
def okS (s : Sg) : Bool := nearB [s.x, s.y, s.cx, s.cy]
def shiftL (f g : Int → Int) (l : List Sg) : List Sg × Int :=
  if mayB l = false then ([], 1) else if (l.map (shS f g)).all okS then (l.map (shS f g), 0) else ([], 2)

theorem shiftL_not {f g : Int → Int} {l : List Sg} {k : Nat} (hm : mayB l = true) (hk : k < l.length) (h : okS (shS f g l[k]) = false) : shiftL f g l = ([], 2) := by
  unfold shiftL
  rw [hm, if_neg (by decide), if_neg]
  intro ha
  rw [List.all_eq_true] at ha
  have := ha (shS f g l[k]) (List.mem_map.2 ⟨_, List.getElem_mem hk, rfl⟩)
  rw [h] at this; cases this
theorem shiftL_all {f g : Int → Int} {l : List Sg} (hm : mayB l = true) (h : (l.map (shS f g)).all okS = true) : shiftL f g l = (l.map (shS f g), 0) := by
  unfold shiftL
  rw [hm, if_neg (by decide), if_pos h]
theorem sh_take {f g : Int → Int} {l : List Sg} {k : Nat} (hk : k < l.length) : (l.take (k + 1)).map (shS f g) = (l.take k).map (shS f g) ++ [shS f g l[k]] := by
  rw [List.take_succ_eq_append_getElem hk, List.map_append, List.map_singleton]
theorem sh_all {f g : Int → Int} {l : List Sg} {k : Nat} (hk : k < l.length) (h : ((l.take k).map (shS f g)).all okS = true) (h1 : okS (shS f g l[k]) = true) : ((l.take (k + 1)).map (shS f g)).all okS = true := by
  rw [sh_take hk, List.all_append, h]; simp [h1]

end Go.Proofs.Ytbpgehaflbacmaa

/- The plain law of PathRounds. -/
namespace Go.Proofs.Ytbpgehaflbacmaa

theorem chain_edgesC {c : Ct} (h : GoodC c) : chain c.x c.y (edgesC c) := by
  unfold edgesC
  refine chain_app _ _ _ _ h.1 ?_
  unfold closeC
  split
  · trivial
  · exact ⟨rfl, rfl, trivial⟩
theorem chain_get : ∀ (es : List Ed) (x y : Int) (_ : chain x y es) (j : Nat) (hj : j < es.length), es[j].x0 = endX x (es.take j) ∧ es[j].y0 = endY y (es.take j)
  | e :: es, x, y, h, 0, _ => ⟨h.1, h.2.1⟩
  | e :: es, x, y, h, j + 1, hj => by
    have := chain_get es e.x1 e.y1 h.2.2 j (by simpa using hj)
    simp only [List.getElem_cons_succ, List.take_succ_cons, endX_cons, endY_cons]
    exact this
theorem end_take (es : List Ed) (x y : Int) (j : Nat) (hj : j < es.length) : endX x (es.take (j + 1)) = es[j].x1 ∧ endY y (es.take (j + 1)) = es[j].y1 := by
  rw [List.take_succ_eq_append_getElem hj, endX_snoc, endY_snoc]; exact ⟨rfl, rfl⟩
/-- Are there more edges of a contour? -/
theorem edgesC_more {c : Ct} (j : Nat) (hj : j ≤ (edgesC c).length) :
    (j < (edgesC c).length ↔ (j < c.es.length ∨ endX c.x ((edgesC c).take j) ≠ c.x ∨ endY c.y ((edgesC c).take j) ≠ c.y)) ∧ (j < c.es.length → (edgesC c)[j]? = c.es[j]?) ∧ (j < (edgesC c).length → j ≤ c.es.length) := by
  have hsp : (edgesC c).length = c.es.length + (closeC c).length := by unfold edgesC; rw [List.length_append]
  have hcl : (closeC c).length ≤ 1 := by unfold closeC; split <;> simp
  refine ⟨?_, fun h => by unfold edgesC; rw [List.getElem?_append_left h], fun h => by omega⟩
  by_cases h1 : j < c.es.length
  · simp [h1]; omega
  · by_cases h2 : j = c.es.length
    · subst h2
      have ht : (edgesC c).take c.es.length = c.es := by unfold edgesC; rw [List.take_append_of_le_length (Nat.le_refl _), List.take_length]
      rw [ht, hsp]
      unfold closeC
      by_cases he : endX c.x c.es = c.x ∧ endY c.y c.es = c.y
      · rw [if_pos he]; simp [he.1, he.2]
      · rw [if_neg he]
        simp only [List.length_singleton, Nat.lt_add_one, Nat.lt_irrefl, false_or, true_iff]
        by_cases hx : endX c.x c.es = c.x
        · exact .inr fun hy => he ⟨hx, hy⟩
        · exact .inl hx
    · have h3 : j = (edgesC c).length := by omega
      have h4 : (closeC c).length = 1 := by omega
      have hne : ¬ (endX c.x c.es = c.x ∧ endY c.y c.es = c.y) := fun he => by unfold closeC at h4; rw [if_pos he] at h4; simp at h4
      have ht : (edgesC c).take j = edgesC c := List.take_of_length_le (by omega)
      have he : endX c.x (edgesC c) = c.x ∧ endY c.y (edgesC c) = c.y := by
        unfold edgesC closeC; rw [if_neg hne, endX_snoc, endY_snoc]; exact ⟨rfl, rfl⟩
      rw [ht, he.1, he.2]
      simp; omega
theorem edgesC_pts {c : Ct} : ∀ e ∈ edgesC c, (e.x1, e.y1) ∈ ptC c ∧ (e.bent = true → (e.cx, e.cy) ∈ ptC c) := by
  intro e he
  unfold edgesC at he
  unfold ptC
  rcases List.mem_append.1 he with h | h
  · exact ⟨by rw [List.mem_cons, List.mem_flatMap]; exact .inr ⟨e, h, mem_ptE.2 (.inr rfl)⟩, fun hb => by rw [List.mem_cons, List.mem_flatMap]; exact .inr ⟨e, h, mem_ptE.2 (.inl ⟨hb, rfl⟩)⟩⟩
  · unfold closeC at h
    split at h
    · simp at h
    · rw [List.mem_singleton] at h; subst h
      exact ⟨by simp, fun hb => by cases hb⟩
/-- All edges of a valid path lie within its box. -/
theorem edges_in {l : List Sg} (h : mayB l = true) (h0 : l ≠ []) : ∀ c ∈ ctsL l, ∀ e ∈ edgesC c, ((boxFrom l).x0 ≤ e.x1 ∧ e.x1 ≤ (boxFrom l).x1 ∧ (boxFrom l).y0 ≤ e.y1 ∧ e.y1 ≤ (boxFrom l).y1) ∧
    (e.bent = true → (boxFrom l).x0 ≤ e.cx ∧ e.cx ≤ (boxFrom l).x1 ∧ (boxFrom l).y0 ≤ e.cy ∧ e.cy ≤ (boxFrom l).y1) := by
  intro c hc e he
  obtain ⟨h1, h2⟩ := edgesC_pts e he
  have hb := (box_is h h0).all
  have e1 : pts l = (ctsL l).flatMap ptC := by rw [← pts_pathOf, pathOf_ctsL h]
  have hm : ∀ p ∈ ptC c, p ∈ pts l := fun p hp => by rw [e1, List.mem_flatMap]; exact ⟨c, hc, hp⟩
  exact ⟨hb _ (hm _ h1), fun hbt => hb _ (hm _ (h2 hbt))⟩
theorem flatMap_split {α β : Type} (f : α → List β) (cs : List α) (i : Nat) (h : i < cs.length) : ∃ R, cs.flatMap f = (cs.take i).flatMap f ++ (f cs[i] ++ R) := by
  refine ⟨(cs.drop (i + 1)).flatMap f, ?_⟩
  conv => lhs; rw [← List.take_append_drop i cs, List.drop_eq_getElem_cons h, List.flatMap_append, List.flatMap_cons]
theorem flatMap_at {α β : Type} (f : α → List β) (cs : List α) (i : Nat) (h : i < cs.length) (j : Nat) (hj : j < (f cs[i]).length) :
    ∃ hk : ((cs.take i).flatMap f).length + j < (cs.flatMap f).length, (cs.flatMap f)[((cs.take i).flatMap f).length + j] = (f cs[i])[j] := by
  obtain ⟨R, hR⟩ := flatMap_split f cs i h
  refine ⟨by rw [hR]; simp only [List.length_append]; omega, ?_⟩
  simp only [hR]
  rw [List.getElem_append_right (by omega)]
  simp only [Nat.add_sub_cancel_left]
  rw [List.getElem_append_left hj]

end Go.Proofs.Ytbpgehaflbacmaa
