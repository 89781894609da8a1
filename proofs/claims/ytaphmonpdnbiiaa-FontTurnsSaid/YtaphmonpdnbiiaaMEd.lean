/- flat.Edges and its closure. -/
import Derived.Test.YtaphmonpdnbiiaaFlat
import Derived.Test.YtaphmonpdnbiiaaMMay
namespace Go.Proofs.Ytaphmonpdnbiiaa
open Go.RowKit

theorem plcX_succ (e : Ed) (n : Int) (k : Nat) : plc1 e.x0 e.cx e.x1 ((k : Int) + 1) n = plcX e n (k + 1) := by simp [plcX]
theorem plcY_succ (e : Ed) (n : Int) (k : Nat) : plc1 e.y0 e.cy e.y1 ((k : Int) + 1) n = plcY e n (k + 1) := by simp [plcY]

theorem sgT : SlT Try.prog 35 42 5 40 := slT_of Try.underlying35 (by kernel_rfl) (by omega) (by omega)

end Go.Proofs.Ytaphmonpdnbiiaa

namespace Go.Proofs.Ytaphmonpdnbiiaa
open Go.RowKit

end Go.Proofs.Ytaphmonpdnbiiaa
