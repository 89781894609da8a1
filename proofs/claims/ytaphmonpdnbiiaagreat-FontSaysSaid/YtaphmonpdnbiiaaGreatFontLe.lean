/- font.Letter, plainly. -/
import Derived.Test.YtaphmonpdnbiiaaGreatMF1
namespace Go.Proofs.YtaphmonpdnbiiaaGreat

def le0 : Le := ⟨ByteArray.empty, ByteArray.empty⟩
def letterF (F : Fo) (c : Nat) : Option Le := if openB F then letF F (nameF F c) else none
/-- What Letter answers. -/
def letV (y : Option Le) : Value := .tuple #[.agg #[.string (y.getD le0).name, .string (y.getD le0).prog], .bool y.isSome]
theorem letV_eq (y : Option Le) : letV y = .tuple #[.agg (lec (y.getD le0)).toArray, .bool y.isSome] := rfl
theorem bookTo_names {l : List Le} : ∀ {k : Nat}, k ≤ l.length → bookTo l k = true → ∀ x ∈ l.take k, x.name ≠ ByteArray.empty
  | 0, _, _, x, hx => by simp at hx
  | k + 1, hk, hb, x, hx => by
    have hkl : k < l.length := by omega
    simp only [bookTo, List.getElem?_eq_getElem hkl, Bool.and_eq_true] at hb
    rw [List.take_succ_eq_append_getElem hkl, List.mem_append, List.mem_singleton] at hx
    rcases hx with hx | rfl
    · exact bookTo_names (by omega) hb.1 x hx
    · have := hb.2
      simp only [leB, Bool.and_eq_true, Bool.not_eq_true', decide_eq_false_iff_not] at this
      exact this.1.1.2
theorem let_empty {F : Fo} (h : openB F = true) : letF F ByteArray.empty = none := by
  have hb : bookB F.lets = true := by rw [openB_eq] at h; simp only [Bool.and_eq_true] at h; exact h.2
  unfold letF
  rw [List.find?_eq_none]
  intro x hx
  have := bookTo_names (Nat.le_refl _) hb x (by rw [List.take_length]; exact hx)
  simpa using this
theorem letterF_no {F : Fo} {c : Nat} (h : openB F = true) (hn : nameF F c = ByteArray.empty) : letterF F c = none := by
  unfold letterF; rw [h, hn, let_empty h]; rfl
theorem letterF_yes {F : Fo} {c : Nat} (h : openB F = true) : letterF F c = F.lets.find? fun x => decide (x.name = nameF F c) := by
  unfold letterF; rw [h]; rfl
theorem letterF_shut {F : Fo} {c : Nat} (h : openB F = false) : letterF F c = none := by
  unfold letterF; rw [h]; rfl
theorem runF_letter {F : Fo} {c : Nat} (h : openB F = true) : runF F c = match letterF F c with | none => (([], 0), 16) | some x => if (RunG (bl x.prog)).2 = 0 then RunG (bl x.prog) else (([], 0), 16) := by
  unfold letterF; rw [h]; rfl
end Go.Proofs.YtaphmonpdnbiiaaGreat
