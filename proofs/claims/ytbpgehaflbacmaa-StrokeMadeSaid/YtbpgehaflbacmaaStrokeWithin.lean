/- The walk of StrokeWithin: it returns true. -/
import Derived.Test.YtbpgehaflbacmaaStrokeJoins
import Derived.Test.YtbpgehaflbacmaaAllP
import Derived.Test.YtbpgehaflbacmaaBox2
namespace Go.Proofs.Ytbpgehaflbacmaa
open Go.RowKit Go.BigFrame

/-- A style that lies in memory. -/
structure StIn (w : World) (g : Nat) (a b c : Int) : Prop where
  lt : g < w.heap.size
  c0 : w.cell? ⟨g, 0, none⟩ = some (.int .i64 a)
  c1 : w.cell? ⟨g, 1, none⟩ = some (.int .i64 b)
  c2 : w.cell? ⟨g, 2, none⟩ = some (.int .i64 c)
theorem StIn.below {w w' : World} {g : Nat} {a b c : Int} (h : StIn w g a b c) (hb : Below w.heap.size w w') : StIn w' g a b c :=
  ⟨Nat.lt_of_lt_of_le h.lt hb.size, (later_cell hb h.lt).trans h.c0, (later_cell hb h.lt).trans h.c1, (later_cell hb h.lt).trans h.c2⟩
theorem StIn.new {w : World} {t : TypeId} (a b c : Int) : StIn (w.alloc (.cells #[.int .i64 a, .int .i64 b, .int .i64 c] t)) w.heap.size a b c :=
  ⟨by simp, new_cell _ 0, new_cell _ 1, new_cell _ 2⟩

end Go.Proofs.Ytbpgehaflbacmaa
