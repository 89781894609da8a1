/- Regions that draw their order and whose callees make memory: one walk, in the text's order. The class of worlds: those that have grown from one. -/
import Derived.Test.YtbbffeddlgfeiaaBase
import Derived.Test.YtbbffeddlgfeiaaApp
namespace Go.Proofs.Ytbbffeddlgfeiaa
open Go.RowKit

/-- A world that has grown from another one. -/
structure Grown (w : World) where
  world : World
  below : Below w.heap.size w world
instance (w : World) : Nonempty (Grown w) := ⟨⟨w, Below.refl _ _⟩⟩
theorem Grown.cell {w : World} (x : Grown w) {b o : Nat} {v : Value} (h : w.cell? ⟨b, o, none⟩ = some v) (hb : b < w.heap.size) : x.world.cell? ⟨b, o, none⟩ = some v := (later_cell x.below hb).trans h
theorem Grown.size {w : World} (x : Grown w) : w.heap.size ≤ x.world.heap.size := x.below.size
theorem wp_region_grown {P : Program} {id : Nat} {Q : Exit → Act → World → Prop} {a : Act} {w : World} {l : List Oper} (hm : P.follows .mixedOrders = true) (hB : Region.lexB .any l.toArray = true)
    (h : wpQuiet P l.toArray (fun w' => ∃ x : Grown w, w' = x.world) (fun a' => ∀ w', (∃ x : Grown w, w' = x.world) → Q .normal a' w') l a) : (Code.region id l.toArray true).wp P Q a w :=
  wp_region_quiet (C := fun w' => ∃ x : Grown w, w' = x.world) hm hB ⟨⟨_, bdrew (Below.refl _ _)⟩, rfl⟩ (by simpa using h)
/-- A callee's contract there. -/
theorem Calls.grown {P : Program} {f : FuncId} {args : Array Value} {w : World} {x : Grown w} {v : Value}
    (h : Calls P f args x.world fun e w' => e = .returned v ∧ Below x.world.heap.size x.world w') : Calls P f args x.world fun e w'' => e = .returned v ∧ ∃ y : Grown w, w'' = y.world :=
  h.mono fun _ _ ⟨he, hb⟩ => ⟨he, ⟨_, btr x.below hb⟩, rfl⟩
theorem Calls.grown_same {P : Program} {f : FuncId} {args : Array Value} {w : World} {x : Grown w} {v : Value}
    (h : Calls P f args x.world fun e w' => e = .returned v ∧ x.world = w') : Calls P f args x.world fun e w'' => e = .returned v ∧ ∃ y : Grown w, w'' = y.world :=
  h.mono fun _ _ ⟨he, hb⟩ => ⟨he, x, hb.symm⟩
end Go.Proofs.Ytbbffeddlgfeiaa
