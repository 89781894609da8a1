/- glyph.Code: what the laws need of its bytes. -/
import Derived.Test.YtemnjccgikfddaaGlyphCode2
namespace Go.Proofs.Ytemnjccgikfddaa
open Go.RowKit

theorem bodyG_byte : ∀ (l : List Sg) (x y bx by_ : Int), ∀ b ∈ bodyG x y bx by_ l, b < 256
  | [], _, _, _, _, b, hb => by simp [bodyG] at hb
  | s :: l, x, y, bx, by_, b, hb => by
    unfold bodyG at hb
    split at hb
    · rcases List.mem_cons.1 hb with rfl | hb
      · omega
      · exact bodyG_byte l _ _ _ _ b hb
    · split at hb
      · rcases List.mem_append.1 hb with hb | hb
        · exact putG_byte _ b hb
        · rcases List.mem_append.1 hb with hb | hb
          · exact putG_byte _ b hb
          · rcases List.mem_cons.1 hb with rfl | hb
            · omega
            · exact bodyG_byte l _ _ _ _ b hb
      · split at hb
        · rcases List.mem_append.1 hb with hb | hb
          · exact putG_byte _ b hb
          · rcases List.mem_append.1 hb with hb | hb
            · exact putG_byte _ b hb
            · rcases List.mem_cons.1 hb with rfl | hb
              · omega
              · exact bodyG_byte l _ _ _ _ b hb
        · rcases List.mem_append.1 hb with hb | hb
          · exact putG_byte _ b hb
          · rcases List.mem_append.1 hb with hb | hb
            · exact putG_byte _ b hb
            · rcases List.mem_append.1 hb with hb | hb
              · exact putG_byte _ b hb
              · rcases List.mem_append.1 hb with hb | hb
                · exact putG_byte _ b hb
                · rcases List.mem_cons.1 hb with rfl | hb
                  · omega
                  · exact bodyG_byte l _ _ _ _ b hb
theorem codeS_byte (l : List Sg) (wide : Int) : ∀ b ∈ codeS l wide, b < 256 := by
  intro b hb
  unfold codeS at hb
  rcases List.mem_cons.1 hb with rfl | hb
  · omega
  · rcases List.mem_append.1 hb with hb | hb
    · exact putG_byte _ b hb
    · rcases List.mem_cons.1 hb with rfl | hb
      · omega
      · rcases List.mem_append.1 hb with hb | hb
        · exact bodyG_byte l _ _ _ _ b hb
        · simp at hb; omega
theorem bl_nat {ns : List Nat} (h : ∀ b ∈ ns, b < 256) : bl (strOfNums (ns.map Int.ofNat)) = ns := by
  rw [bl_nums (by intro x hx; obtain ⟨b, hb, rfl⟩ := List.mem_map.1 hx; have := h b hb; simp only [Int.ofNat_eq_natCast]; omega), List.map_map]
  have : (Int.toNat ∘ Int.ofNat) = id := by funext n; simp
  rw [this, List.map_id]
theorem code_made {l : List Sg} {bows : Bool} (h : MadeOK l bows) {wide : Int} (hw : 0 ≤ wide ∧ wide ≤ 8191) : codeG l wide = (codeS l wide, 0) ∧ (codeS l wide).length ≤ 114 := by
  have h1 := codeS_len (l := l) wide fun s hs => by have := h.2.2.1 s hs; unfold smallSg at this; unfold Sml; omega
  have h2 := h.2.1
  refine ⟨?_, by omega⟩
  unfold codeG
  rw [if_neg (by rw [h.may]; simp; omega), if_neg (by omega)]
/-- Code's three answers. -/
theorem codeG_cases (l : List Sg) (wide : Int) : (codeG l wide = (codeS l wide, 0) ∧ mayB l = true ∧ (0 ≤ wide ∧ wide ≤ 8191) ∧ (codeS l wide).length ≤ 600) ∨ codeG l wide = ([], 1) ∨ codeG l wide = ([], 5) := by
  unfold codeG
  by_cases h1 : mayB l = false ∨ wide < 0 ∨ 8191 < wide
  · rw [if_pos h1]; exact .inr (.inl rfl)
  · rw [if_neg h1]
    have hm : mayB l = true := by simp at h1; exact h1.1
    by_cases h2 : 600 < (codeS l wide).length
    · rw [if_pos h2]; exact .inr (.inr rfl)
    · rw [if_neg h2]; exact .inl ⟨rfl, hm, by omega, by omega⟩
set_option maxRecDepth 100000 in
theorem Few_say (A : Option Addr) (n c : Nat) (w : World) (_hc : n ≤ 9223372036854775807) :
    Calls Try.prog 11 #[.slice A n c] w fun e w' => e = .returned (.bool (decide ((n : Int) ≤ 320))) ∧ w = w' := by
  go_enter Try.func11, Try.ntmps11
  go_wp2
  go_ret
  exact ⟨rfl, rfl⟩
end Go.Proofs.Ytemnjccgikfddaa
