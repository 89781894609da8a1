/- The plain side of the reference's pieces. -/
import Derived.Test.YtbpeoejjjllieaaPlain
namespace Go.Proofs.Ytbpeoejjjllieaa

/-- May one piece be, by itself? -/
def pieceB (s : Sg) : Bool :=
  ((s.kind == 1 || s.kind == 2) && (co s.x && co s.y && s.cx == 0 && s.cy == 0)) || (s.kind == 3 && (co s.x && co s.y && (co s.cx && co s.cy))) || (s.kind == 4 && (s.x == 0 && s.y == 0 && s.cx == 0 && s.cy == 0))

theorem rightB_iff {s : Sg} {last : Int} : rightB s last = true ↔ pieceB s = true ∧ ((s.kind = 1 ∧ last ≠ 1) ∨ (s.kind ≠ 1 ∧ last ≠ 0 ∧ last ≠ 4)) := by
  have h0 : co 0 = true := by decide
  unfold rightB pieceB nearB
  by_cases h1 : s.kind = 1
  · simp [h1, and_assoc]
    intro _ _
    constructor
    · rintro ⟨c, d, e, f, g⟩; exact ⟨e, f, g⟩
    · rintro ⟨e, f, g⟩; rw [e, f]; exact ⟨h0, h0, rfl, rfl, g⟩
  · by_cases h2 : s.kind = 2
    · simp [h2, and_assoc]
      intro _ _
      constructor
      · rintro ⟨c, d, e, f, g⟩; exact ⟨e, f, g⟩
      · rintro ⟨e, f, g⟩; rw [e, f]; exact ⟨h0, h0, rfl, rfl, g⟩
    · by_cases h3 : s.kind = 3
      · simp [h3, and_assoc]
      · by_cases h4 : s.kind = 4
        · simp [h4, and_assoc]
          constructor
          · rintro ⟨a, b, c, d, e, f, g, h, i, j⟩; exact ⟨i, j, e, f, g, h⟩
          · rintro ⟨i, j, e, f, g, h⟩; rw [e, f, i, j]; exact ⟨h0, h0, h0, h0, rfl, rfl, g, h, rfl, rfl⟩
        · simp [h1, h2, h3, h4]

theorem pieceB_kind {s : Sg} (h : pieceB s = true) : 1 ≤ s.kind ∧ s.kind ≤ 4 := by
  unfold pieceB at h
  simp at h
  omega

end Go.Proofs.Ytbpeoejjjllieaa
