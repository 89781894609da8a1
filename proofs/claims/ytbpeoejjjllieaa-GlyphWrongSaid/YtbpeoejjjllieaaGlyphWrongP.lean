/- The plain law of GlyphWrong. -/
import Derived.Test.YtbpeoejjjllieaaGlyphP
namespace Go.Proofs.Ytbpeoejjjllieaa
theorem wr0 : ∀ v < 100, RunG [0, 12 + v % 20, 10] = (([], 0), 3) := by decide +kernel
theorem wr1 : RunG [0, 139, 3, 10] = (([], 0), 7) := by decide +kernel
theorem wr2 : RunG [0, 139, 139, 139, 2, 10] = (([], 0), 8) := by decide +kernel
theorem wr3 : ∀ v < 100, RunG [0, 139, 139 + v, 3, 10] = (([], 0), 13) := by decide +kernel
theorem wr4 : ∀ v < 100, RunG [17 + v] = (([], 0), 3) := by decide +kernel
theorem wr5 : ∀ v < 100, RunG [1, 3 + v, 9] = (([], 0), 4) := by decide +kernel
theorem wr6 : RunG [0, 9, 10] = (([], 0), 3) := by decide +kernel
theorem wr7 : ∀ v < 100, RunG [0, 139 + v, 8, 10] = (([], 0), 3) := by decide +kernel
theorem wr8 : RunG [1, 2, 139, 8, 139, 8, 10] = (([], 0), 5) := by decide +kernel
theorem wr9 : ∀ v < 100, RunG [0, 139, 139, 2, 139 + v, 1, 10] = (([], 0), 3) := by decide +kernel
theorem wr10 : ∀ v < 100, RunG [0, 138 - v, 1, 10] = (([], 0), 2) := by decide +kernel
theorem wr11 {p : List Nat} (h : 600 < p.length) : RunG p = (([], 0), 5) := by
  have : splitG p = (([], []), 5) := by unfold splitG; rw [if_pos h]
  unfold RunG; rw [this]; rfl
end Go.Proofs.Ytbpeoejjjllieaa
