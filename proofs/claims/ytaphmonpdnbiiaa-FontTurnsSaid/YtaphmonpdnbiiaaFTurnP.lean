/- Outlines turned by quarters, plainly. -/
import Derived.Test.YtaphmonpdnbiiaaFontScP
import Derived.Test.YtaphmonpdnbiiaaSpin
namespace Go.Proofs.Ytaphmonpdnbiiaa
open Go.RowKit Go.BigFrame

def rotS (c d : Int) (s : Sg) : Sg := ⟨s.kind, c * s.x - d * s.y, d * s.x + c * s.y, c * s.cx - d * s.cy, d * s.cx + c * s.cy⟩
theorem rot_aff (k c d p : Int) {s : Sg} (hp : pieceB s = true) : affS (k * c) (k * d) (k * -d) (k * c) ((p + 0) * c + 0 * -d + 0) ((p + 0) * d + 0 * c + 0) s = rotS c d (affS (k * 1) (k * 0) (k * 0) (k * 1) (p * 1 + 0 * 0 + 0) (p * 0 + 0 * 1 + 0) s) := by
  by_cases h4 : s.kind = 4
  · have := piece4 hp h4
    rw [this]; simp [affS, rotS]
  · by_cases h3 : s.kind = 3
    · obtain ⟨kd, x, y, cx, cy⟩ := s
      simp only at h3
      subst h3
      have e : ∀ a b c d e f : Int, affS a b c d e f ⟨3, x, y, cx, cy⟩ = ⟨3, a * x + c * y + e, b * x + d * y + f, a * cx + c * cy + e, b * cx + d * cy + f⟩ := fun _ _ _ _ _ _ => rfl
      rw [e]
      (try rw [e])
      unfold rotS
      simp only [Sg.mk.injEq, true_and]
      refine ⟨?_, ?_, ?_, ?_⟩ <;> grind
    · obtain ⟨c1, c2⟩ := piece12 hp h3
      unfold affS rotS
      simp only [h4, h3, if_false, Sg.mk.injEq, true_and, c1, c2]
      refine ⟨?_, ?_, ?_, ?_⟩ <;> grind
theorem turns_law {F : Fo} {k c d : Int} (hF : MadeF F) (hk : 1 ≤ k ∧ k ≤ 3) (hm : F.m = scaleM k) (hc : Bd 1 c) (hd : Bd 1 d) {s : List Nat} (hs : ∀ b ∈ s, b < 3) (h8 : s.length ≤ 8) :
    ∃ (l : List Sg) (p1 : Int), outF F oneM 0 0 s = ((l, p1 * 65536, 0), 0) ∧ outF F (wholeM c d (-d) c 0 0) 0 0 s = ((l.map (rotS c d), p1 * 65536, 0), 0) ∧
      mayB l = true ∧ mayB (l.map (rotS c d)) = true ∧ l.length ≤ 48 := by
  have o0 := ow_oneF hF hk hm (q := 0) (by unfold Bd; omega)
  have hd' : Bd 1 (-d) := by unfold Bd at *; omega
  have b3 : ∀ {v : Int}, Bd 1 v → Bd 60 (k * v) := fun {v} hv => by have := mul_bdF (n := 3) (m := 1) (x := k) (y := v) (by unfold Bd; omega) hv (by omega) (by omega); unfold Bd at *; omega
  have om : OWOK F k c d (-d) c 0 0 0 := by
    refine ⟨hF, hm, hk, ⟨?_, ?_, ?_, ?_, ?_, ?_⟩, ?_, fun p hp => ⟨b3 hc, b3 hd, b3 hd', b3 hc, ?_, ?_⟩⟩
    all_goals first | (unfold Bd at *; (try simp); omega) | (have := mul_bdF (n := 1000) (m := 1) (x := p) (y := c) hp hc (by omega) (by omega); unfold Bd at *; (try simp); omega) | (have := mul_bdF (n := 1000) (m := 1) (x := p) (y := d) hp hd (by omega) (by omega); unfold Bd at *; (try simp); omega) | (unfold Bd at *; (try simp); done)
  obtain ⟨⟨l, p1⟩, hO⟩ : ∃ r, outW F k 1 0 0 1 0 0 0 s 0 [] = r := ⟨_, rfl⟩
  have hb : outW F k c d (-d) c 0 0 0 s (0 + 0) ([].map (rotS c d)) = (l.map (rotS c d), p1 + 0) := by
    rw [outW_rel hF (k := k) (a := 1) (b := 0) (c := 0) (d := 1) (e := 0) (f := 0) (q := 0) (g := rotS c d) (fun _ => rfl) (fun p s hp => rot_aff k c d p hp) s 0 [] hs, hO]
  simp only [Int.add_zero, List.map_nil] at hb
  obtain ⟨q1, q2, q3⟩ := outW_ok o0 s 0 [] 0 hs (by unfold Bd; omega) (by omega) rfl (by simp; omega)
  obtain ⟨r1, r2, r3⟩ := outW_ok om s 0 [] 0 hs (by unfold Bd; omega) (by omega) rfl (by simp; omega)
  rw [hO] at q1 q2 q3
  rw [hb] at r1
  simp only [List.length_nil] at q2
  have f0 : fixB 0 = true := by decide
  have fair : ∀ {m : Mt} {x y : Int}, mtB m = true → fixB x = true → fixB y = true → outF F m x y s = outS F m [] x y s := fun h1 h2 h3 => by
    unfold outF fairF; rw [hF.open, h1, h2, h3]; rfl
  refine ⟨l, p1, ?_, ?_, q1, r1, by omega⟩
  · rw [fair (m := oneM) (by decide) f0 f0]
    have := outS_whole o0 s 0 [] hs (by omega) (by unfold Bd; omega) rfl (by simp; omega)
    rw [hO, Int.zero_mul] at this; exact this
  · rw [fair om.h0.may f0 f0]
    have := outS_whole om s 0 [] hs (by omega) (by unfold Bd; omega) rfl (by simp; omega)
    rw [hb, Int.zero_mul] at this; exact this
end Go.Proofs.Ytaphmonpdnbiiaa
