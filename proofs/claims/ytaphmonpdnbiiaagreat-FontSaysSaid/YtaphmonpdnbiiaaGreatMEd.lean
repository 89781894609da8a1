/- flat.Count. -/
import Derived.Test.YtaphmonpdnbiiaaGreatMNum
import Derived.Test.YtaphmonpdnbiiaaGreatMMay
namespace Go.Proofs.YtaphmonpdnbiiaaGreat
open Go.RowKit

end Go.Proofs.YtaphmonpdnbiiaaGreat

namespace Go.Proofs.YtaphmonpdnbiiaaGreat
open Go.RowKit

theorem plcX_succ (e : Ed) (n : Int) (k : Nat) : plc1 e.x0 e.cx e.x1 ((k : Int) + 1) n = plcX e n (k + 1) := by simp [plcX]
theorem plcY_succ (e : Ed) (n : Int) (k : Nat) : plc1 e.y0 e.cy e.y1 ((k : Int) + 1) n = plcY e n (k + 1) := by simp [plcY]

theorem sgT : SlT Tryz.prog 34 44 5 40 := slT_of Tryz.underlying34 (by kernel_rfl) (by omega) (by omega)

end Go.Proofs.YtaphmonpdnbiiaaGreat
