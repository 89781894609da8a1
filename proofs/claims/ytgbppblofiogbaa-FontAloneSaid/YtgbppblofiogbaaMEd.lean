/- flat.Edges and its closure. -/
import Derived.Test.YtgbppblofiogbaaFlat
import Derived.Test.YtgbppblofiogbaaMMay
namespace Go.Proofs.Ytgbppblofiogbaa
open Go.RowKit

theorem plcX_succ (e : Ed) (n : Int) (k : Nat) : plc1 e.x0 e.cx e.x1 ((k : Int) + 1) n = plcX e n (k + 1) := by simp [plcX]
theorem plcY_succ (e : Ed) (n : Int) (k : Nat) : plc1 e.y0 e.cy e.y1 ((k : Int) + 1) n = plcY e n (k + 1) := by simp [plcY]

theorem sgT : SlT Try.prog 34 48 5 40 := slT_of Try.underlying34 (by kernel_rfl) (by omega) (by omega)

end Go.Proofs.Ytgbppblofiogbaa

namespace Go.Proofs.Ytgbppblofiogbaa
open Go.RowKit

end Go.Proofs.Ytgbppblofiogbaa
