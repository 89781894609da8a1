/- path.Box: what it returns, and that what was there is as it was. -/
import Derived.Test.YtbpgehaflbacmaaAdd
import Derived.Test.YtbpgehaflbacmaaAllP
import Derived.BigRegion
import Derived.Deep.RegionHeld3
import Derived.Deep.DeepCutAuto
namespace Go.Proofs.Ytbpgehaflbacmaa
open Go.RowKit

/-- Four variables hold a box. -/
structure BxAt (w : World) (g : Nat) (b : Bx) : Prop where
  c0 : w.cell? ⟨g, 0, none⟩ = some (.int .i64 b.x0)
  c1 : w.cell? ⟨g + 1, 0, none⟩ = some (.int .i64 b.y0)
  c2 : w.cell? ⟨g + 2, 0, none⟩ = some (.int .i64 b.x1)
  c3 : w.cell? ⟨g + 3, 0, none⟩ = some (.int .i64 b.y1)
  f0 : w.frozen? ⟨g, 0, none⟩ = false
  f1 : w.frozen? ⟨g + 1, 0, none⟩ = false
  f2 : w.frozen? ⟨g + 2, 0, none⟩ = false
  f3 : w.frozen? ⟨g + 3, 0, none⟩ = false
  hl : g + 3 < w.heap.size

theorem BxAt.below {w w' : World} {g : Nat} {b : Bx} (h : BxAt w g b) (hb : Below w.heap.size w w') : BxAt w' g b := by
  obtain ⟨c0, c1, c2, c3, f0, f1, f2, f3, hl⟩ := h
  exact ⟨(later_cell hb (by omega)).trans c0, (later_cell hb (by omega)).trans c1, (later_cell hb (by omega)).trans c2, (later_cell hb (by omega)).trans c3,
    (later_frozen hb (by omega)).trans f0, (later_frozen hb (by omega)).trans f1, (later_frozen hb (by omega)).trans f2, (later_frozen hb (by omega)).trans f3, Nat.lt_of_lt_of_le hl hb.size⟩

theorem BxAt.set {w : World} {g : Nat} {b : Bx} (h : BxAt w g b) (v0 v1 v2 v3 : Int) :
    BxAt ((((w.setCell ⟨g, 0, none⟩ (.int .i64 v0)).setCell ⟨g + 1, 0, none⟩ (.int .i64 v1)).setCell ⟨g + 2, 0, none⟩ (.int .i64 v2)).setCell ⟨g + 3, 0, none⟩ (.int .i64 v3)).drew g ⟨v0, v1, v2, v3⟩ := by
  obtain ⟨c0, c1, c2, c3, f0, f1, f2, f3, hl⟩ := h
  constructor <;> simp [go_sem, *]

theorem results_box {fn : Func} {ty : TypeId} (h : fn.results = #[.cell 2 ty, .cell 3 ty, .cell 4 ty, .cell 5 ty, .tmp 6]) (tmps : Array Value) (P : Program) (w : World) :
    (results fn tmps).run P w = ((asAddr (tmps.getD 2 undef)).run P w).andThen fun a0 w => ((loadVar ty a0).run P w).andThen fun v0 w => ((asAddr (tmps.getD 3 undef)).run P w).andThen fun a1 w => ((loadVar ty a1).run P w).andThen fun v1 w =>
      ((asAddr (tmps.getD 4 undef)).run P w).andThen fun a2 w => ((loadVar ty a2).run P w).andThen fun v2 w => ((asAddr (tmps.getD 5 undef)).run P w).andThen fun a3 w => ((loadVar ty a3).run P w).andThen fun v3 w => .ok (.tuple #[v0, v1, v2, v3, tmps.getD 6 undef]) w := by
  simp only [results, h]
  simp [Sem.run_bind, Result.andThen]

theorem ld_int {w : World} {a : Addr} {v : Int} (h : w.cell? a = some (.int .i64 v)) : (loadVar 3 a).run Try.prog w = .ok (.int .i64 v) w := by
  unfold loadVar; go_simp
theorem results_box_ok {fn : Func} (h : fn.results = #[.cell 2 3, .cell 3 3, .cell 4 3, .cell 5 3, .tmp 6]) {tmps : Array Value} {w : World} {g : Nat} {b : Bx} {ok : Bool} (hb : BxAt w g b)
    (h2 : tmps.getD 2 undef = .pointer (some ⟨g, 0, none⟩)) (h3 : tmps.getD 3 undef = .pointer (some ⟨g + 1, 0, none⟩)) (h4 : tmps.getD 4 undef = .pointer (some ⟨g + 2, 0, none⟩)) (h5 : tmps.getD 5 undef = .pointer (some ⟨g + 3, 0, none⟩))
    (h6 : tmps.getD 6 undef = .bool ok) : (results fn tmps).run Try.prog w = .ok (.tuple #[.int .i64 b.x0, .int .i64 b.y0, .int .i64 b.x1, .int .i64 b.y1, .bool ok]) w := by
  have hp : ∀ g, (asAddr (.pointer (some ⟨g, 0, none⟩))).run Try.prog w = .ok ⟨g, 0, none⟩ w := fun g => by go_simp
  rw [results_box h, h2, h3, h4, h5, h6]
  simp only [hp, Result.andThen, ld_int hb.c0, ld_int hb.c1, ld_int hb.c2, ld_int hb.c3]
theorem BxAt.set0 {w : World} {g : Nat} {b : Bx} (h : BxAt w g b) (v0 v1 v2 v3 : Int) :
    BxAt ((((w.setCell ⟨g, 0, none⟩ (.int .i64 v0)).setCell ⟨g + 1, 0, none⟩ (.int .i64 v1)).setCell ⟨g + 2, 0, none⟩ (.int .i64 v2)).setCell ⟨g + 3, 0, none⟩ (.int .i64 v3)) g ⟨v0, v1, v2, v3⟩ := by
  obtain ⟨c0, c1, c2, c3, f0, f1, f2, f3, hl⟩ := h
  constructor <;> simp [go_sem, *]
theorem BxAt.bset {W w : World} {g : Nat} (hb : Below W.heap.size W w) (hW : W.heap.size ≤ g) (u0 u1 u2 u3 : Value) :
    Below W.heap.size W ((((w.setCell ⟨g, 0, none⟩ u0).setCell ⟨g + 1, 0, none⟩ u1).setCell ⟨g + 2, 0, none⟩ u2).setCell ⟨g + 3, 0, none⟩ u3) :=
  Proofs.Ytbpgehaflbacmaa.bset (Proofs.Ytbpgehaflbacmaa.bset (Proofs.Ytbpgehaflbacmaa.bset (Proofs.Ytbpgehaflbacmaa.bset hb (by exact hW) _) (by show _ ≤ g + 1; omega) _) (by show _ ≤ g + 2; omega) _) (by show _ ≤ g + 3; omega) _
theorem new_box (w : World) (v0 v1 v2 v3 : Int) (t : TypeId) : BxAt ((((w.alloc (.cells #[.int .i64 v0] t)).alloc (.cells #[.int .i64 v1] t)).alloc (.cells #[.int .i64 v2] t)).alloc (.cells #[.int .i64 v3] t)) w.heap.size ⟨v0, v1, v2, v3⟩ := by
  constructor <;> simp [go_sem]

end Go.Proofs.Ytbpgehaflbacmaa
