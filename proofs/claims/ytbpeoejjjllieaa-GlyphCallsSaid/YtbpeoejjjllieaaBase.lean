/- Words for memory: a slice that reads as a list of cells, and how such a reading is carried from world to world. -/
import Derived.Test.YtbpeoejjjllieaaPlain
import Derived.WalkKit
import Derived.WalkSpells
import Derived.WalkLawsBesides
import Derived.Lib.Hide
import Derived.Deep.QuietTactic
import Derived.BigQuiet
import Derived.Deep.Light
namespace Go.Proofs.Ytbpeoejjjllieaa
open Go.RowKit

/-- The slice value '.slice A n c' reads as the cells xs, s of them an element. -/
def Sl (w : World) (s : Nat) (A : Option Addr) (n : Nat) (xs : List Value) : Prop :=
  xs.length = n * s ∧ (0 < n → ∃ b off : Nat, A = some ⟨b, off, none⟩ ∧ b < w.heap.size ∧ ∀ j u, xs[j]? = some u → w.cell? ⟨b, off + j, none⟩ = some u)

theorem bcell {W w1 : World} (hb : Below W.heap.size W w1) :
    (∀ b o, b < W.heap.size → w1.cell? ⟨b, o, none⟩ = W.cell? ⟨b, o, none⟩) ∧ (∀ b o, b < W.heap.size → w1.frozen? ⟨b, o, none⟩ = W.frozen? ⟨b, o, none⟩) :=
  ⟨fun b o h => hb.cell (p := ⟨b, o, none⟩) h, fun b o h => hb.frozen (p := ⟨b, o, none⟩) h⟩

section
variable {w w' : World} {s n : Nat} {A : Option Addr} {xs : List Value}
theorem Sl.nil_ : Sl w s A 0 [] := ⟨by simp, fun h => absurd h (by omega)⟩
theorem Sl.below (h : Sl w s A n xs) (hb : Below w.heap.size w w') : Sl w' s A n xs :=
  ⟨h.1, fun hn => by
    obtain ⟨b, off, e, hlt, hc⟩ := h.2 hn
    exact ⟨b, off, e, Nat.lt_of_lt_of_le hlt hb.size, fun j u hu => ((bcell hb).1 b _ hlt).trans (hc j u hu)⟩⟩
theorem Sl.alloc (h : Sl w s A n xs) (o : Obj) : Sl (w.alloc o) s A n xs := h.below ((Below.refl _ _).alloc (Nat.le_refl _) o)
theorem Sl.drew (h : Sl w s A n xs) : Sl w.drew s A n xs := h
theorem Sl.drewN (h : Sl w s A n xs) (k : Nat) : Sl (w.drewN k) s A n xs := h
end

/-- A list of numbers as cells. -/
def ints (zs : List Int) : List Value := zs.map (Value.int .i64)

/-- A piece's cells; pieces'. -/
def sgc (s : Sg) : List Value := [.int .i64 s.kind, .int .i64 s.x, .int .i64 s.y, .int .i64 s.cx, .int .i64 s.cy]
def sgs (l : List Sg) : List Value := l.flatMap sgc
/-- An edge's cells; edges'. -/
def edc (e : Ed) : List Value := [.int .i64 e.x0, .int .i64 e.y0, .bool e.bent, .int .i64 e.cx, .int .i64 e.cy, .int .i64 e.x1, .int .i64 e.y1]
def eds (l : List Ed) : List Value := l.flatMap edc

theorem len_flat {α : Type} (f : α → List Value) (s : Nat) (hs : ∀ x, (f x).length = s) (l : List α) : (l.flatMap f).length = l.length * s := by
  induction l with
  | nil => simp
  | cons a l ih => rw [List.flatMap_cons, List.length_append, ih, hs, List.length_cons, Nat.add_mul]; omega
theorem get_flat {α : Type} (f : α → List Value) (s : Nat) (hs : ∀ x, (f x).length = s) (l : List α) (k j : Nat) (hk : k < l.length) (hj : j < s) :
    (l.flatMap f)[k * s + j]? = (f l[k])[j]? := by
  induction l generalizing k with
  | nil => simp at hk
  | cons a l ih =>
    rw [List.flatMap_cons]
    cases k with
    | zero => rw [List.getElem?_append_left (by rw [hs]; omega)]; simp
    | succ k =>
      rw [List.getElem?_append_right (by rw [hs, Nat.succ_mul]; omega), hs]
      have : (k + 1) * s + j - s = k * s + j := by rw [Nat.succ_mul]; omega
      rw [this, ih k (by simpa using hk)]; simp
theorem sgs_len (l : List Sg) : (sgs l).length = l.length * 5 := len_flat sgc 5 (fun _ => rfl) l
theorem eds_len (l : List Ed) : (eds l).length = l.length * 7 := len_flat edc 7 (fun _ => rfl) l

/-- The cells of the k-th piece. -/
theorem Sl.sg {w : World} {A : Option Addr} {n : Nat} {l : List Sg} (h : Sl w 5 A n (sgs l)) (k : Nat) (hk : k < n) (hl : k < l.length) :
    ∃ b off : Nat, A = some ⟨b, off, none⟩ ∧ b < w.heap.size ∧ w.cell? ⟨b, off + k * 5, none⟩ = some (.int .i64 l[k].kind) ∧ w.cell? ⟨b, off + k * 5 + 1, none⟩ = some (.int .i64 l[k].x) ∧
      w.cell? ⟨b, off + k * 5 + 2, none⟩ = some (.int .i64 l[k].y) ∧ w.cell? ⟨b, off + k * 5 + 3, none⟩ = some (.int .i64 l[k].cx) ∧ w.cell? ⟨b, off + k * 5 + 4, none⟩ = some (.int .i64 l[k].cy) := by
  obtain ⟨b, off, e, hb, hc⟩ := h.2 (by omega)
  have g : ∀ j u, j < 5 → (sgc l[k])[j]? = some u → w.cell? ⟨b, off + k * 5 + j, none⟩ = some u := fun j u hj hu => by
    rw [Nat.add_assoc]; exact hc _ u (by rw [← hu]; exact get_flat sgc 5 (fun _ => rfl) l k j hl hj)
  exact ⟨b, off, e, hb, g 0 _ (by omega) rfl, g 1 _ (by omega) rfl, g 2 _ (by omega) rfl, g 3 _ (by omega) rfl, g 4 _ (by omega) rfl⟩
theorem Sl.sglen {w : World} {A : Option Addr} {n : Nat} {l : List Sg} (h : Sl w 5 A n (sgs l)) : l.length = n := by
  have := h.1; rw [sgs_len] at this; omega
theorem Sl.ed {w : World} {A : Option Addr} {n : Nat} {l : List Ed} (h : Sl w 7 A n (eds l)) (k : Nat) (hk : k < n) (hl : k < l.length) :
    ∃ b off : Nat, A = some ⟨b, off, none⟩ ∧ b < w.heap.size ∧ w.cell? ⟨b, off + k * 7, none⟩ = some (.int .i64 l[k].x0) ∧ w.cell? ⟨b, off + k * 7 + 1, none⟩ = some (.int .i64 l[k].y0) ∧
      w.cell? ⟨b, off + k * 7 + 2, none⟩ = some (.bool l[k].bent) ∧ w.cell? ⟨b, off + k * 7 + 3, none⟩ = some (.int .i64 l[k].cx) ∧ w.cell? ⟨b, off + k * 7 + 4, none⟩ = some (.int .i64 l[k].cy) ∧
      w.cell? ⟨b, off + k * 7 + 5, none⟩ = some (.int .i64 l[k].x1) ∧ w.cell? ⟨b, off + k * 7 + 6, none⟩ = some (.int .i64 l[k].y1) := by
  obtain ⟨b, off, e, hb, hc⟩ := h.2 (by omega)
  have g : ∀ j u, j < 7 → (edc l[k])[j]? = some u → w.cell? ⟨b, off + k * 7 + j, none⟩ = some u := fun j u hj hu => by
    rw [Nat.add_assoc]; exact hc _ u (by rw [← hu]; exact get_flat edc 7 (fun _ => rfl) l k j hl hj)
  exact ⟨b, off, e, hb, g 0 _ (by omega) rfl, g 1 _ (by omega) rfl, g 2 _ (by omega) rfl, g 3 _ (by omega) rfl, g 4 _ (by omega) rfl, g 5 _ (by omega) rfl, g 6 _ (by omega) rfl⟩
theorem Sl.edlen {w : World} {A : Option Addr} {n : Nat} {l : List Ed} (h : Sl w 7 A n (eds l)) : l.length = n := by
  have := h.1; rw [eds_len] at this; omega

/- The frame of a call that makes memory and changes none that was there. -/
section
variable {W w w' : World}
theorem bal (h : Below W.heap.size W w) (o : Obj) : Below W.heap.size W (w.alloc o) := h.alloc h.size o
theorem bset (h : Below W.heap.size W w) {p : Addr} (hp : W.heap.size ≤ p.block) (u : Value) : Below W.heap.size W (w.setCell p u) := h.setCell hp u
theorem btr (h : Below W.heap.size W w) (h' : Below w.heap.size w w') : Below W.heap.size W w' := h.trans (h'.mono h.size)
theorem bdrew (h : Below W.heap.size W w) : Below W.heap.size W w.drew := h.drew
theorem bdrewN (h : Below W.heap.size W w) (n : Nat) : Below W.heap.size W (w.drewN n) := ⟨h.os, h.tape, h.output, h.size, h.block⟩
end

/-- A new block of one-cell values, as a slice. -/
theorem sl_new {w : World} {t : TypeId} {n g : Nat} (vs : List Value) (hg : w.heap.size = g) (h : vs.length = n) : Sl (w.alloc (.cells vs.toArray t)) 1 (some ⟨g, 0, none⟩) n vs := by
  subst hg
  exact ⟨by omega, fun _ => ⟨_, _, rfl, by simp, fun j u hu => by
    rw [cell_of_row (w.alloc (.cells vs.toArray t)) w.heap.size (0 + j) vs.toArray t _ (heap_alloc_new w _)]; simpa using hu⟩⟩

/-- A new block of elements of s cells, as a slice. -/
theorem sl_newN {w : World} {t : TypeId} {n g s : Nat} (vs : List Value) (hg : w.heap.size = g) (h : vs.length = n * s) : Sl (w.alloc (.cells vs.toArray t)) s (some ⟨g, 0, none⟩) n vs := by
  subst hg
  exact ⟨h, fun _ => ⟨_, _, rfl, by simp, fun j u hu => by
    rw [cell_of_row (w.alloc (.cells vs.toArray t)) w.heap.size (0 + j) vs.toArray t _ (heap_alloc_new w _)]; simpa using hu⟩⟩

theorem new_cell {w : World} {t : TypeId} (cs : Array Value) (i : Nat) : (w.alloc (.cells cs t)).cell? ⟨w.heap.size, i, none⟩ = cs[i]? := cell_of_row _ _ _ cs t _ (heap_alloc_new w _)
theorem later_cell {W w : World} (hb : Below W.heap.size W w) {b o : Nat} (h : b < W.heap.size) : w.cell? ⟨b, o, none⟩ = W.cell? ⟨b, o, none⟩ := (bcell hb).1 b o h
theorem later_frozen {W w : World} (hb : Below W.heap.size W w) {b o : Nat} (h : b < W.heap.size) : w.frozen? ⟨b, o, none⟩ = W.frozen? ⟨b, o, none⟩ := (bcell hb).2 b o h

theorem quiet_left {P : Program} {f : FuncId} {args : Array Value} {w : World} {n : Nat} {v : Value} (h : Calls P f args (w.drewN n) fun e w' => e = .returned v ∧ w.drewN n = w') :
    Calls P f args (w.drewN n) fun e w'' => e = .returned v ∧ ∃ m, w'' = w.drewN m := h.mono fun _ _ ⟨he, hm⟩ => ⟨he, n, hm.symm⟩

theorem ret_bool {a b : Bool} (h : a = b) : Ending.returned (.bool a) = .returned (.bool b) := by rw [h]
theorem ret_int {k : IntKind} {a b : Int} (h : a = b) : Ending.returned (.int k a) = .returned (.int k b) := by rw [h]
theorem co_iff {z : Int} : co z = true ↔ -8191 ≤ z ∧ z ≤ 8191 := by simp [co]
theorem co_no {z : Int} (h : z < -8191 ∨ 8191 < z) : co z = false := by
  rw [Bool.eq_false_iff]; intro hc; rw [co_iff] at hc; omega

end Go.Proofs.Ytbpeoejjjllieaa
