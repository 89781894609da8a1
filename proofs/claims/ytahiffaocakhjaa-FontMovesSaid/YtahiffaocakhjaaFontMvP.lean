/- Outlines moved, plainly. -/
import Derived.Test.YtahiffaocakhjaaFontXP
import Derived.Test.YtahiffaocakhjaaShift
namespace Go.Proofs.Ytahiffaocakhjaa

def mvS (u v : Int) : Sg → Sg := shS (fun x => x + u) (fun y => y + v)
theorem mvS_kind (u v : Int) (s : Sg) : (mvS u v s).kind = s.kind := by unfold mvS shS; split <;> rfl
theorem mv_aff (a b c d e f e' f' u v : Int) (he : e' = e + u) (hf : f' = f + v) (s : Sg) : affS a b c d e' f' s = mvS u v (affS a b c d e f s) := by
  subst he; subst hf
  unfold mvS shS
  rw [affS_kind]
  unfold affS
  by_cases h4 : s.kind = 4
  · simp [h4]
  · by_cases h3 : s.kind = 3
    · simp only [h4, h3, if_true, if_false]
      have : ¬ (3 : Int) = 4 := by omega
      simp only [this, if_false, Sg.mk.injEq, true_and]
      omega
    · simp only [h4, h3, if_false, Sg.mk.injEq, true_and, and_true]
      omega
theorem shift_mv {l : List Sg} {u v : Int} (hl : mayB l = true) (hm : mayB (l.map (mvS u v)) = true) (hu : Bd 40 u) (hv : Bd 40 v) : shiftL (ad u) (ad v) l = (l.map (mvS u v), 0) := by
  have hp := pieces_of l 0 (mayB_from hl).1
  have he : l.map (shS (ad u) (ad v)) = l.map (mvS u v) := by
    apply List.map_congr_left
    intro s hs
    obtain ⟨c1, c2, c3, c4⟩ := pieceB_co (hp s hs)
    have w : ∀ d x : Int, Bd 40 d → co x = true → ad d x = x + d := fun d x hd hx => by
      simp only [co, Bool.and_eq_true, decide_eq_true_eq] at hx
      unfold ad; exact IntWalk.wrap64_in _ (by unfold Bd at *; omega)
    unfold mvS shS
    rw [w u s.x hu c1, w v s.y hv c2, w u s.cx hu c3, w v s.cy hv c4]
  rw [shiftL_all hl, he]
  rw [he, List.all_eq_true]
  intro s hs
  obtain ⟨c1, c2, c3, c4⟩ := pieceB_co (pieces_of _ 0 (mayB_from hm).1 s hs)
  unfold okS nearB
  simp [c1, c2, c3, c4]
/-- All of FontMoves. -/
theorem moves_law {F : Fo} {k : Int} (hF : MadeF F) (hk : 1 ≤ k ∧ k ≤ 3) (hm : F.m = scaleM k) {u v : Int} (hu : Bd 40 u) (hv : Bd 40 v) {s : List Nat} (hs : ∀ b ∈ s, b < 3) (h8 : s.length ≤ 8) :
    ∃ (l : List Sg) (p1 : Int), outF F oneM 0 0 s = ((l, p1 * 65536, 0), 0) ∧ outF F oneM (u * 65536) (v * 65536) s = ((l.map (mvS u v), (p1 + u) * 65536, v * 65536), 0) ∧ outF F (wholeM 1 0 0 1 u v) 0 0 s = ((l.map (mvS u v), p1 * 65536, 0), 0) ∧
      shiftL (ad u) (ad v) l = (l.map (mvS u v), 0) ∧ l.length ≤ 48 ∧ Bd 1000 p1 := by
  have o0 := ow_oneF hF hk hm (q := 0) (by unfold Bd; omega)
  have ov := ow_oneF hF hk hm (q := v) (by unfold Bd at *; omega)
  have om : OWOK F k 1 0 0 1 u v 0 := by
    refine ⟨hF, hm, hk, ⟨?_, ?_, ?_, ?_, ?_, ?_⟩, ?_, fun p hp => ⟨?_, ?_, ?_, ?_, ?_, ?_⟩⟩ <;> unfold Bd at * <;> (try simp) <;> omega
  obtain ⟨⟨l, p1⟩, hO⟩ : ∃ r, outW F k 1 0 0 1 0 0 0 s 0 [] = r := ⟨_, rfl⟩
  have ha : outW F k 1 0 0 1 0 0 v s (0 + u) ([].map (mvS u v)) = (l.map (mvS u v), p1 + u) := by
    rw [outW_rel hF (k := k) (a := 1) (b := 0) (c := 0) (d := 1) (e := 0) (f := 0) (q := 0) (mvS_kind u v) (fun p s _ => mv_aff _ _ _ _ _ _ _ _ u v (by omega) (by omega) s) s 0 [] hs, hO]
  have hb : outW F k 1 0 0 1 u v 0 s (0 + 0) ([].map (mvS u v)) = (l.map (mvS u v), p1 + 0) := by
    rw [outW_rel hF (k := k) (a := 1) (b := 0) (c := 0) (d := 1) (e := 0) (f := 0) (q := 0) (mvS_kind u v) (fun p s _ => mv_aff _ _ _ _ _ _ _ _ u v (by omega) (by omega) s) s 0 [] hs, hO]
  simp only [Int.zero_add, Int.add_zero, List.map_nil] at ha hb
  obtain ⟨q1, q2, q3⟩ := outW_ok o0 s 0 [] 0 hs (by unfold Bd; omega) (by omega) rfl (by simp; omega)
  obtain ⟨r1, r2, r3⟩ := outW_ok ov s u [] 40 hs hu (by omega) rfl (by simp; omega)
  rw [hO] at q1 q2 q3
  rw [ha] at r1 r2 r3
  simp only [List.length_nil] at q2
  have fu : fixB (u * 65536) = true := fixB_of (by unfold Bd at *; omega) (by unfold Bd at *; omega)
  have fv : fixB (v * 65536) = true := fixB_of (by unfold Bd at *; omega) (by unfold Bd at *; omega)
  have f0 : fixB 0 = true := by decide
  have fair : ∀ {m : Mt} {x y : Int}, mtB m = true → fixB x = true → fixB y = true → outF F m x y s = outS F m [] x y s := fun h1 h2 h3 => by
    unfold outF fairF; rw [hF.open, h1, h2, h3]; rfl
  refine ⟨l, p1, ?_, ?_, ?_, shift_mv q1 r1 hu hv, by omega, by unfold Bd at *; omega⟩
  · rw [fair (m := oneM) (by decide) f0 f0]
    have := outS_whole o0 s 0 [] hs (by omega) (by unfold Bd; omega) rfl (by simp; omega)
    rw [hO, Int.zero_mul] at this; exact this
  · rw [fair (m := oneM) (by decide) fu fv]
    have := outS_whole ov s u [] hs (by omega) (by unfold Bd at *; omega) rfl (by simp; omega)
    rw [ha] at this; exact this
  · rw [fair om.h0.may f0 f0]
    have := outS_whole om s 0 [] hs (by omega) (by unfold Bd; omega) rfl (by simp; omega)
    rw [hb, Int.zero_mul] at this; exact this
end Go.Proofs.Ytahiffaocakhjaa
