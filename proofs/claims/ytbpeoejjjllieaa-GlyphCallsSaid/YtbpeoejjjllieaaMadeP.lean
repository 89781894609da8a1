/- The plain side of paths by numbers: valid, small, few. -/
import Derived.Test.YtbpeoejjjllieaaRefP
namespace Go.Proofs.Ytbpeoejjjllieaa

/-- A piece's numbers lie on a small page or a little beyond. -/
def smallSg (s : Sg) : Prop := (-32 ≤ s.x ∧ s.x < 288) ∧ (-32 ≤ s.y ∧ s.y < 288) ∧ (-32 ≤ s.cx ∧ s.cx < 288) ∧ (-32 ≤ s.cy ∧ s.cy < 288)
/-- A piece may be behind one of some kind, is small, and no bow where none is wanted. -/
def Okd (s : Sg) (last : Int) (bows : Bool) : Prop := rightB s last = true ∧ smallSg s ∧ (bows = false → s.kind ≠ 3)
/-- What a path by numbers is. -/
def MadeOK (l : List Sg) (bows : Bool) : Prop := mayFrom 0 l = true ∧ l.length ≤ 12 ∧ (∀ s ∈ l, smallSg s) ∧ (bows = false → ∀ s ∈ l, s.kind ≠ 3)

theorem mayFrom_snoc (a : Int) (l : List Sg) (s : Sg) : mayFrom a (l ++ [s]) = (mayFrom a l && rightB s ((l.getLast?.map Sg.kind).getD a)) := by
  induction l generalizing a with
  | nil => simp [mayFrom]
  | cons b l ih =>
    rw [List.cons_append, mayFrom, mayFrom, ih, Bool.and_assoc]
    cases l with
    | nil => simp
    | cons c l =>
      obtain ⟨z, hz⟩ : ∃ z, (c :: l).getLast? = some z := ⟨_, List.getLast?_eq_some_getLast (by simp)⟩
      simp only [List.getLast?_cons_cons, hz, Option.map_some, Option.getD_some]
theorem MadeOK.nil (bows : Bool) : MadeOK [] bows := ⟨rfl, by simp, fun s hs => by simp at hs, fun _ s hs => by simp at hs⟩
theorem MadeOK.snoc {l : List Sg} {s : Sg} {bows : Bool} (h : MadeOK l bows) (hl : l.length < 12) (hs : Okd s (lastK l) bows) : MadeOK (l ++ [s]) bows := by
  obtain ⟨h1, h2, h3, h4⟩ := h
  refine ⟨?_, by simp; omega, fun t ht => ?_, fun hb t ht => ?_⟩
  · rw [mayFrom_snoc, h1, show (l.getLast?.map Sg.kind).getD 0 = lastK l from rfl, hs.1]; rfl
  · rw [List.mem_append, List.mem_singleton] at ht
    rcases ht with ht | rfl
    · exact h3 t ht
    · exact hs.2.1
  · rw [List.mem_append, List.mem_singleton] at ht
    rcases ht with ht | rfl
    · exact h4 hb t ht
    · exact hs.2.2 hb
theorem MadeOK.may {l : List Sg} {bows : Bool} (h : MadeOK l bows) : mayB l = true := by
  have := h.2.1
  simp [mayB, h.1]; omega

theorem z0 : (-32 : Int) ≤ 0 ∧ (0 : Int) < 288 := by decide
theorem co_small {v : Int} (h : -32 ≤ v ∧ v < 288) : co v = true := by simp [co]; omega
theorem okd_move {a b last : Int} {bows : Bool} (ha : -32 ≤ a ∧ a < 288) (hb : -32 ≤ b ∧ b < 288) (hl : last ≠ 1) : Okd ⟨1, a, b, 0, 0⟩ last bows :=
  ⟨rightB_iff.2 ⟨by simp [pieceB, co_small ha, co_small hb], .inl ⟨rfl, hl⟩⟩, ⟨ha, hb, z0, z0⟩, fun _ => by simp⟩
theorem okd_line {a b last : Int} {bows : Bool} (ha : -32 ≤ a ∧ a < 288) (hb : -32 ≤ b ∧ b < 288) (hl : last ≠ 0 ∧ last ≠ 4) : Okd ⟨2, a, b, 0, 0⟩ last bows :=
  ⟨rightB_iff.2 ⟨by simp [pieceB, co_small ha, co_small hb], .inr ⟨by simp, hl⟩⟩, ⟨ha, hb, z0, z0⟩, fun _ => by simp⟩
theorem okd_close {last : Int} {bows : Bool} (hl : last ≠ 0 ∧ last ≠ 4) : Okd ⟨4, 0, 0, 0, 0⟩ last bows :=
  ⟨rightB_iff.2 ⟨by decide, .inr ⟨by simp, hl⟩⟩, ⟨z0, z0, z0, z0⟩, fun _ => by simp⟩
theorem okd_bow {a b c d last : Int} (ha : -32 ≤ a ∧ a < 288) (hb : -32 ≤ b ∧ b < 288) (hc : -32 ≤ c ∧ c < 288) (hd : -32 ≤ d ∧ d < 288) (hl : last ≠ 0 ∧ last ≠ 4) : Okd ⟨3, a, b, c, d⟩ last true :=
  ⟨rightB_iff.2 ⟨by simp [pieceB, co_small ha, co_small hb, co_small hc, co_small hd], .inr ⟨by simp, hl⟩⟩, ⟨ha, hb, hc, hd⟩, fun h => by cases h⟩
theorem lastK_get (l : List Sg) (h : l.length - 1 < l.length) : lastK l = l[l.length - 1].kind := by
  unfold lastK
  rw [List.getLast?_eq_getElem?, List.getElem?_eq_getElem h]; rfl

end Go.Proofs.Ytbpeoejjjllieaa
