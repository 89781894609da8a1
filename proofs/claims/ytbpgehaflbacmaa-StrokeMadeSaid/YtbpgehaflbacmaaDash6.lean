/- dash.Cut. -/
import Derived.Test.YtbpgehaflbacmaaDash5
import Derived.Test.YtbpgehaflbacmaaAllP
import Derived.Test.YtbpgehaflbacmaaCts
import Derived.Deep.DeepCutAuto
namespace Go.Proofs.Ytbpgehaflbacmaa
open Go.RowKit

/-- What Cut hands back. -/
def CutPost (w : World) (r : List Sg × Int) (e : Ending) (w' : World) : Prop :=
  ∃ (A : Option Addr) (c : Nat), e = .returned (.tuple #[.slice A r.1.length c, .int .i64 r.2]) ∧ w'.ownsRow w.heap.size 42 5 (.slice A r.1.length c) r.1.length (sgs r.1) ∧ Below w.heap.size w w'

theorem own_empty (w : World) (t : TypeId) (s base g : Nat) (hb : base ≤ w.heap.size) (hg : w.heap.size = g) : (w.alloc (.cells #[] t)).ownsRow base t s (.slice (some ⟨g, 0, none⟩) 0 0) 0 [] :=
  own_new (w := w) (t := t) (n := 0) (s := s) (base := base) [] hg (by simp) (by omega) (by omega)

/-- The row of lengths in memory. -/
structure RowIn (w : World) (B : Nat) (A : Option Addr) (r c : Nat) (R : List Int) : Prop where
  own : w.ownsRow B 3 1 (.slice A r c) r (ints R)
theorem RowIn.len {w : World} {B r c : Nat} {A : Option Addr} {R : List Int} (h : RowIn w B A r c R) : R.length = r := (own_sl h.own).intlen
theorem ints_app (a b : List Int) : ints (a ++ b) = ints a ++ ints b := by simp [ints]

theorem Mid.sl {lo s n : Nat} {w wi : World} {A : Option Addr} {xs : List Value} (h : Mid lo w.heap.size w wi) (hs : Sl w s A n xs) (hb : ∀ a, A = some a → lo ≤ a.block) : Sl wi s A n xs :=
  ⟨hs.1, fun hn => by
    obtain ⟨b, off, e, hlt, hc⟩ := hs.2 hn
    exact ⟨b, off, e, Nat.lt_of_lt_of_le hlt h.1, fun j u hu => (h.cell (hb _ e) hlt).trans (hc j u hu)⟩⟩
theorem WayIn.mid {lo n : Nat} {w wi : World} {Ap Ae : Option Addr} {ps : List Ed} (h : Mid lo w.heap.size w wi) (hs : WayIn w Ap Ae n ps) (hb : ∀ a, Ap = some a ∨ Ae = some a → lo ≤ a.block) : WayIn wi Ap Ae n ps :=
  ⟨hs.len, hs.few, hs.all, h.sl hs.p fun a e => hb a (.inl e), h.sl hs.e fun a e => hb a (.inr e)⟩
end Go.Proofs.Ytbpgehaflbacmaa
