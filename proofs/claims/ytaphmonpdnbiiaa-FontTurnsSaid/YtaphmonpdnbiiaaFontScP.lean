/- Outlines made larger, plainly; tympanlaw41.times. -/
import Derived.Test.YtaphmonpdnbiiaaFontXP
import Derived.Test.YtaphmonpdnbiiaaMFt
namespace Go.Proofs.Ytaphmonpdnbiiaa
open Go.RowKit Go.BigFrame

def tmS (kk : Int) (s : Sg) : Sg := ⟨s.kind, kk * s.x, kk * s.y, kk * s.cx, kk * s.cy⟩
theorem piece4 {s : Sg} (h : pieceB s = true) (h4 : s.kind = 4) : s = ⟨4, 0, 0, 0, 0⟩ := by
  obtain ⟨k, x, y, cx, cy⟩ := s
  simp only at h4
  subst h4
  simp [pieceB] at h
  obtain ⟨⟨⟨a, b⟩, c⟩, d⟩ := h
  subst a; subst b; subst c; subst d; rfl
theorem piece12 {s : Sg} (h : pieceB s = true) (h3 : s.kind ≠ 3) : s.cx = 0 ∧ s.cy = 0 := by
  by_cases h4 : s.kind = 4
  · have := piece4 h h4; rw [this]; exact ⟨rfl, rfl⟩
  · simp [pieceB, h3, h4] at h
    exact ⟨h.2.1.2, h.2.2⟩
theorem tm_aff (k kk p : Int) {s : Sg} (hp : pieceB s = true) : affS (k * kk) (k * 0) (k * 0) (k * kk) ((p + 0) * kk + 0 * 0 + 0) ((p + 0) * 0 + 0 * kk + 0) s = tmS kk (affS (k * 1) (k * 0) (k * 0) (k * 1) (p * 1 + 0 * 0 + 0) (p * 0 + 0 * 1 + 0) s) := by
  by_cases h4 : s.kind = 4
  · have := piece4 hp h4
    rw [this]; simp [affS, tmS]
  · by_cases h3 : s.kind = 3
    · obtain ⟨kd, x, y, cx, cy⟩ := s
      simp only at h3
      subst h3
      have e : ∀ a b c d e f : Int, affS a b c d e f ⟨3, x, y, cx, cy⟩ = ⟨3, a * x + c * y + e, b * x + d * y + f, a * cx + c * cy + e, b * cx + d * cy + f⟩ := fun _ _ _ _ _ _ => rfl
      rw [e]
      (try rw [e])
      unfold tmS
      simp only [Sg.mk.injEq, true_and]
      refine ⟨?_, ?_, ?_, ?_⟩ <;> grind
    · obtain ⟨c1, c2⟩ := piece12 hp h3
      unfold affS tmS
      simp only [h4, h3, if_false, Sg.mk.injEq, true_and, c1, c2]
      refine ⟨?_, ?_, ?_, ?_⟩ <;> grind
theorem tm_one (k : Int) {s : Sg} (hp : pieceB s = true) : affS (k * 1) (k * 0) (k * 0) (k * 1) (0 * 1 + 0 * 0 + 0) (0 * 0 + 0 * 1 + 0) s = tmS k s := by
  by_cases h4 : s.kind = 4
  · have := piece4 hp h4
    rw [this]; simp [affS, tmS]
  · by_cases h3 : s.kind = 3
    · obtain ⟨kd, x, y, cx, cy⟩ := s
      simp only at h3
      subst h3
      have e : ∀ a b c d e f : Int, affS a b c d e f ⟨3, x, y, cx, cy⟩ = ⟨3, a * x + c * y + e, b * x + d * y + f, a * cx + c * cy + e, b * cx + d * cy + f⟩ := fun _ _ _ _ _ _ => rfl
      rw [e]
      (try rw [e])
      unfold tmS
      simp only [Sg.mk.injEq, true_and]
      refine ⟨?_, ?_, ?_, ?_⟩ <;> grind
    · obtain ⟨c1, c2⟩ := piece12 hp h3
      unfold affS tmS
      simp only [h4, h3, if_false, Sg.mk.injEq, true_and, c1, c2]
      refine ⟨?_, ?_, ?_, ?_⟩ <;> grind
theorem MadeF.let_ {F : Fo} (h : MadeF F) {c : Nat} (hc : c < 3) : ∃ x L wd, F.lets[c]? = some x ∧ x.prog.size ≤ 600 ∧ PaOK L ∧ 0 ≤ wd ∧ wd ≤ 24 ∧ RunG (bl x.prog) = ((L, wd), 0) ∧ runF F c = ((L, wd), 0) := by
  obtain ⟨_, hn, ⟨x0, x1, x2, hl, o0, o1, o2⟩, _, _⟩ := h
  have key : ∀ i x, LeOK i x → F.lets[c]? = some x → letF F (nameF F c) = some x → ∃ x L wd, F.lets[c]? = some x ∧ x.prog.size ≤ 600 ∧ PaOK L ∧ 0 ≤ wd ∧ wd ≤ 24 ∧ RunG (bl x.prog) = ((L, wd), 0) ∧ runF F c = ((L, wd), 0) := fun i x hx hx2 hf => by
    obtain ⟨l, wd, h1, h2, h3, h4⟩ := hx.run
    refine ⟨x, l, wd, hx2, hx.prog, h1, h2, h3, h4, ?_⟩
    unfold runF; rw [hf]; simp only [h4, if_true]
  have d1 : decide (strA = strB) = false := by decide +kernel
  have d2 : decide (strA = strC) = false := by decide +kernel
  have d3 : decide (strB = strC) = false := by decide +kernel
  have n0 := o0.1
  have n1 := o1.1
  have n2 := o2.1
  simp only [abc] at n0 n1 n2
  rcases (show c = 0 ∨ c = 1 ∨ c = 2 by omega) with rfl | rfl | rfl
  · refine key 0 x0 o0 (by rw [hl]; rfl) ?_
    unfold letF; rw [hl]; rw [show nameF F 0 = strA by unfold nameF; rw [hn]; rfl]; simp only [List.find?_cons, n0, decide_true]
  · refine key 1 x1 o1 (by rw [hl]; rfl) ?_
    unfold letF; rw [hl]; rw [show nameF F 1 = strB by unfold nameF; rw [hn]; rfl]; simp only [List.find?_cons, n0, n1, d1, decide_true]
  · refine key 2 x2 o2 (by rw [hl]; rfl) ?_
    unfold letF; rw [hl]; rw [show nameF F 2 = strC by unfold nameF; rw [hn]; rfl]; simp only [List.find?_cons, n0, n1, n2, d2, d3, decide_true]
/-- All of FontScales. -/
theorem scales_law {F : Fo} {k kk : Int} (hF : MadeF F) (hk : 1 ≤ k ∧ k ≤ 3) (hm : F.m = scaleM k) (hkk : 1 ≤ kk ∧ kk ≤ 5) {s : List Nat} (hs : ∀ b ∈ s, b < 3) (h8 : s.length ≤ 8) {ch : Nat} (hc : ch < 3) :
    ∃ (l : List Sg) (p1 : Int) (x : Le) (L : List Sg) (wd : Int), outF F oneM 0 0 s = ((l, p1 * 65536, 0), 0) ∧ outF F (wholeM kk 0 0 kk 0 0) 0 0 s = ((l.map (tmS kk), p1 * 65536, 0), 0) ∧
      F.lets[ch]? = some x ∧ x.prog.size ≤ 600 ∧ RunG (bl x.prog) = ((L, wd), 0) ∧ pathF F oneM 0 0 ch = (L.map (tmS k), 0) ∧ mayB l = true ∧ mayB L = true ∧ l.length ≤ 48 ∧ L.length ≤ 6 := by
  have o0 := ow_oneF hF hk hm (q := 0) (by unfold Bd; omega)
  have hk15 : Bd 60 (k * kk) := by have := mul_bdF (n := 3) (m := 5) (x := k) (y := kk) (by unfold Bd; omega) (by unfold Bd; omega) (by omega) (by omega); unfold Bd at *; omega
  have om : OWOK F k kk 0 0 kk 0 0 0 := by
    refine ⟨hF, hm, hk, ⟨?_, ?_, ?_, ?_, ?_, ?_⟩, ?_, fun p hp => ⟨hk15, ?_, ?_, hk15, ?_, ?_⟩⟩
    all_goals first | (have := mul_bdF (n := 1000) (m := 5) (x := p) (y := kk) hp (by unfold Bd; omega) (by omega) (by omega); unfold Bd at *; (try simp); omega) | (unfold Bd at *; (try simp); omega) | (unfold Bd at *; (try simp); done)
  obtain ⟨⟨l, p1⟩, hO⟩ : ∃ r, outW F k 1 0 0 1 0 0 0 s 0 [] = r := ⟨_, rfl⟩
  have hb : outW F k kk 0 0 kk 0 0 0 s (0 + 0) ([].map (tmS kk)) = (l.map (tmS kk), p1 + 0) := by
    rw [outW_rel hF (k := k) (a := 1) (b := 0) (c := 0) (d := 1) (e := 0) (f := 0) (q := 0) (g := tmS kk) (fun _ => rfl) (fun p s hp => tm_aff k kk p hp) s 0 [] hs, hO]
  simp only [Int.add_zero, List.map_nil] at hb
  obtain ⟨q1, q2, q3⟩ := outW_ok o0 s 0 [] 0 hs (by unfold Bd; omega) (by omega) rfl (by simp; omega)
  rw [hO] at q1 q2 q3
  simp only [List.length_nil] at q2
  have f0 : fixB 0 = true := by decide
  have fair : ∀ {m : Mt} {x y : Int}, mtB m = true → fixB x = true → fixB y = true → outF F m x y s = outS F m [] x y s := fun h1 h2 h3 => by
    unfold outF fairF; rw [hF.open, h1, h2, h3]; rfl
  obtain ⟨x, L, wd, h1, h2, h3, h4, h5, h6, h7⟩ := hF.let_ hc
  refine ⟨l, p1, x, L, wd, ?_, ?_, h1, h2, h6, ?_, q1, h3.may, by omega, h3.2.1⟩
  · rw [fair (m := oneM) (by decide) f0 f0]
    have := outS_whole o0 s 0 [] hs (by omega) (by unfold Bd; omega) rfl (by simp; omega)
    rw [hO, Int.zero_mul] at this; exact this
  · rw [fair om.h0.may f0 f0]
    have := outS_whole om s 0 [] hs (by omega) (by unfold Bd; omega) rfl (by simp; omega)
    rw [hb, Int.zero_mul] at this; exact this
  · rw [pathF_made hF (m := oneM) (by decide) f0 f0 h7]
    have := place_whole (F := F) (p := 0) (q := 0) hm hk o0.h0 (by unfold Bd; omega) (by unfold Bd; omega) (o0.hr 0 (by unfold Bd; omega)) h3
    rw [Int.zero_mul] at this
    rw [show oneM = wholeM 1 0 0 1 0 0 from rfl, this]
    congr 1
    apply List.map_congr_left
    intro t ht
    exact tm_one k (pieces_of L 0 h3.1 t ht)
end Go.Proofs.Ytaphmonpdnbiiaa
