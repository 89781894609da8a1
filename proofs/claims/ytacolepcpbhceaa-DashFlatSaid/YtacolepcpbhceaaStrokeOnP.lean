/- A stroke covers both ends of each of its pieces: plainly. -/
import Derived.Test.YtacolepcpbhceaaAllP
namespace Go.Proofs.Ytacolepcpbhceaa

theorem on_begin (e : Ed) (w : Int) : OnP e w e.x0 e.y0 := by
  have h0 := Int.mul_nonneg (sq_nonneg w) (sqE_nonneg e)
  have h1 := sqE_nonneg e
  have hK : armK e e.x0 e.y0 = 0 := by unfold armK; simp
  have hU : armU e e.x0 e.y0 = 0 := by unfold armU; simp
  unfold OnP
  rw [hK, hU]
  omega
theorem on_end (e : Ed) (w : Int) : OnP e w e.x1 e.y1 := by
  have h0 := Int.mul_nonneg (sq_nonneg w) (sqE_nonneg e)
  have h1 := sqE_nonneg e
  have hK : armK e e.x1 e.y1 = 0 := by unfold armK; rw [Int.mul_comm]; omega
  have hU : armU e e.x1 e.y1 = sqE e := rfl
  unfold OnP
  rw [hK, hU]
  omega
theorem ends_cov {l : List Sg} {c : Ct} (hc : c ∈ ctsL l) {e : Ed} (he : e ∈ c.es) (hm : moved e = true) (s : Sy) : covL l s e.x0 e.y0 = true ∧ covL l s e.x1 e.y1 = true := by
  have hp : e ∈ piecesC c := by unfold piecesC; exact List.mem_append_left _ (List.mem_filter.2 ⟨he, hm⟩)
  obtain ⟨i, hi, rfl⟩ := List.getElem_of_mem hp
  rw [covL_iff, covL_iff]
  exact ⟨⟨c, hc, .inr ⟨i, hi, .inl (on_begin _ _)⟩⟩, ⟨c, hc, .inr ⟨i, hi, .inl (on_end _ _)⟩⟩⟩
theorem flatL_nobow {l : List Sg} (h : mayB l = true) : ∀ s ∈ flatL l, s.kind ≠ 3 := by
  rw [flatL_cts h]
  intro s hs
  unfold pathOf at hs
  rw [List.mem_flatMap] at hs
  obtain ⟨c', hc', hs⟩ := hs
  rw [List.mem_map] at hc'
  obtain ⟨c, hc, rfl⟩ := hc'
  have hg := ctsL_good l c hc
  simp only [pathC, flatC, List.mem_cons, List.mem_append, List.mem_map, List.mem_flatMap] at hs
  rcases hs with rfl | ⟨d, ⟨e, he, hd⟩, rfl⟩ | hs
  · simp
  · obtain ⟨h1, _⟩ := lns_straightE (hg.2.1 e he) d hd
    unfold sgE; rw [h1]; simp
  · unfold clL at hs
    split at hs
    · rw [List.mem_singleton] at hs; subst hs; simp
    · simp at hs
end Go.Proofs.Ytacolepcpbhceaa
