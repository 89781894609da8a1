/- A stroke lies within the box of its path and the width round it: plainly. -/
import Derived.Test.YtbbffeddlgfeiaaStrokeQ
import Derived.Test.YtbbffeddlgfeiaaBackDP
namespace Go.Proofs.Ytbbffeddlgfeiaa

theorem abs_le_of_sq {a b : Int} (hb : 0 ≤ b) (h : a * a ≤ b * b) : -b ≤ a ∧ a ≤ b := by
  constructor
  · apply Decidable.byContradiction; intro hc
    have := sq_le (a := b + 1) (b := -a) (by omega) (by omega)
    rw [Int.neg_mul_neg] at this
    have : (b + 1) * (b + 1) = b * b + 2 * b + 1 := by grind
    omega
  · apply Decidable.byContradiction; intro hc
    have := sq_le (a := b + 1) (b := a) (by omega) (by omega)
    have : (b + 1) * (b + 1) = b * b + 2 * b + 1 := by grind
    omega
/-- How far something off reaches in one direction. -/
theorem reach {k w L d : Int} (hw : 0 ≤ w) (hL : 0 ≤ L) (hk : 4 * (k * k) ≤ w * w * L) (hd : d * d ≤ L) : -(w * L) ≤ 2 * (k * d) ∧ 2 * (k * d) ≤ w * L := by
  refine abs_le_of_sq (Int.mul_nonneg hw hL) ?_
  have h1 : 4 * (k * k) * (d * d) ≤ w * w * L * (d * d) := Int.mul_le_mul_of_nonneg_right hk (sq_nonneg d)
  have h2 : w * w * L * (d * d) ≤ w * w * L * L := Int.mul_le_mul_of_nonneg_left hd (Int.mul_nonneg (sq_nonneg w) hL)
  have e1 : 2 * (k * d) * (2 * (k * d)) = 4 * (k * k) * (d * d) := by grind
  have e2 : w * L * (w * L) = w * w * L * L := by grind
  omega
theorem div_le {L a b : Int} (hL : 1 ≤ L) (h : L * a ≤ L * b) : a ≤ b := Int.le_of_mul_le_mul_left h (by omega)
theorem on_near {e : Ed} {w x y : Int} (hw : 0 ≤ w) (hL : 1 ≤ sqE e) (h : OnP e w x y) :
    min e.x0 e.x1 - w ≤ x ∧ x ≤ max e.x0 e.x1 + w ∧ min e.y0 e.y1 - w ≤ y ∧ y ≤ max e.y0 e.y1 + w := by
  obtain ⟨hk, h0, h1⟩ := h
  obtain ⟨dx, hdx⟩ : ∃ dx, dx = e.x1 - e.x0 := ⟨_, rfl⟩
  obtain ⟨dy, hdy⟩ : ∃ dy, dy = e.y1 - e.y0 := ⟨_, rfl⟩
  obtain ⟨vx, hvx⟩ : ∃ vx, vx = x - e.x0 := ⟨_, rfl⟩
  obtain ⟨vy, hvy⟩ : ∃ vy, vy = y - e.y0 := ⟨_, rfl⟩
  have hS : sqE e = dx * dx + dy * dy := by unfold sqE; rw [hdx, hdy]
  have hU : armU e x y = vx * dx + vy * dy := by unfold armU; rw [hdx, hdy, hvx, hvy]
  have hK : armK e x y = vx * dy - vy * dx := by unfold armK; rw [hdx, hdy, hvx, hvy]
  obtain ⟨L, hLL⟩ : ∃ L, L = sqE e := ⟨_, rfl⟩
  obtain ⟨u, hu⟩ : ∃ u, u = armU e x y := ⟨_, rfl⟩
  obtain ⟨k, hkk⟩ : ∃ k, k = armK e x y := ⟨_, rfl⟩
  rw [← hLL] at hk h1 hL hS
  rw [← hu] at h0 h1 hU
  rw [← hkk] at hk hK
  have i1 : L * vx = u * dx + k * dy := by rw [hS, hU, hK]; grind
  have i2 : L * vy = u * dy - k * dx := by rw [hS, hU, hK]; grind
  obtain ⟨r1, r2⟩ := reach hw (by omega) hk (show dy * dy ≤ L by have := sq_nonneg dx; omega)
  obtain ⟨r3, r4⟩ := reach hw (by omega) hk (show dx * dx ≤ L by have := sq_nonneg dy; omega)
  have hmul : ∀ d : Int, L * min d 0 ≤ u * d ∧ u * d ≤ L * max d 0 := by
    intro d
    rcases Int.le_total 0 d with h | h
    · rw [Int.min_eq_right h, Int.max_eq_left h]
      exact ⟨by rw [Int.mul_zero]; exact Int.mul_nonneg h0 h, Int.mul_le_mul_of_nonneg_right h1 h⟩
    · rw [Int.min_eq_left h, Int.max_eq_right h]
      exact ⟨Int.mul_le_mul_of_nonpos_right h1 h, by rw [Int.mul_zero]; exact Int.mul_nonpos_of_nonneg_of_nonpos h0 h⟩
  obtain ⟨m1, m2⟩ := hmul dx
  obtain ⟨m3, m4⟩ := hmul dy
  have hc : w * L = L * w := Int.mul_comm _ _
  have a1 : 2 * vx ≤ 2 * max dx 0 + w := div_le hL (by have e1 : L * (2 * vx) = 2 * (L * vx) := by grind
                                                       have e2 : L * (2 * max dx 0 + w) = 2 * (L * max dx 0) + L * w := by grind
                                                       omega)
  have a2 : 2 * min dx 0 - w ≤ 2 * vx := div_le hL (by have e1 : L * (2 * vx) = 2 * (L * vx) := by grind
                                                       have e2 : L * (2 * min dx 0 - w) = 2 * (L * min dx 0) - L * w := by grind
                                                       omega)
  have a3 : 2 * vy ≤ 2 * max dy 0 + w := div_le hL (by have e1 : L * (2 * vy) = 2 * (L * vy) := by grind
                                                       have e2 : L * (2 * max dy 0 + w) = 2 * (L * max dy 0) + L * w := by grind
                                                       omega)
  have a4 : 2 * min dy 0 - w ≤ 2 * vy := div_le hL (by have e1 : L * (2 * vy) = 2 * (L * vy) := by grind
                                                       have e2 : L * (2 * min dy 0 - w) = 2 * (L * min dy 0) - L * w := by grind
                                                       omega)
  omega
/-- A point that is neither farther along nor farther off than half the width. -/
theorem end_near {L u k w dx dy vx vy : Int} (hw : 0 ≤ w) (hL : 1 ≤ L) (hS : L = dx * dx + dy * dy) (hU : u = vx * dx + vy * dy) (hK : k = vx * dy - vy * dx) (hk : 4 * (k * k) ≤ w * w * L) (hu : 4 * (u * u) ≤ w * w * L) :
    -w ≤ vx ∧ vx ≤ w ∧ -w ≤ vy ∧ vy ≤ w := by
  have i1 : L * vx = u * dx + k * dy := by rw [hS, hU, hK]; grind
  have i2 : L * vy = u * dy - k * dx := by rw [hS, hU, hK]; grind
  have hx : dx * dx ≤ L := by have := sq_nonneg dy; omega
  have hy : dy * dy ≤ L := by have := sq_nonneg dx; omega
  obtain ⟨r1, r2⟩ := reach hw (by omega) hk hy
  obtain ⟨r3, r4⟩ := reach hw (by omega) hk hx
  obtain ⟨s1, s2⟩ := reach hw (by omega) hu hx
  obtain ⟨s3, s4⟩ := reach hw (by omega) hu hy
  have hc : w * L = L * w := Int.mul_comm _ _
  have hn : L * -w = -(L * w) := by grind
  exact ⟨div_le hL (by omega), div_le hL (by omega), div_le hL (by omega), div_le hL (by omega)⟩
theorem ahead_near {e : Ed} {w x y : Int} (hw : 0 ≤ w) (hL : 1 ≤ sqE e) (h : AheadP e w x y) : e.x0 - w ≤ x ∧ x ≤ e.x0 + w ∧ e.y0 - w ≤ y ∧ y ≤ e.y0 + w := by
  obtain ⟨hk, _, hu⟩ := h
  have := end_near (vx := x - e.x0) (vy := y - e.y0) hw hL rfl rfl rfl hk hu
  omega
theorem behind_near {e : Ed} {w x y : Int} (hw : 0 ≤ w) (hL : 1 ≤ sqE e) (h : BehindP e w x y) : e.x1 - w ≤ x ∧ x ≤ e.x1 + w ∧ e.y1 - w ≤ y ∧ y ≤ e.y1 + w := by
  obtain ⟨hk, _, hu⟩ := h
  have := end_near (vx := x - e.x1) (vy := y - e.y1) (dx := e.x1 - e.x0) (dy := e.y1 - e.y0) hw hL rfl (u := armU e x y - sqE e) (by unfold armU sqE; grind) (k := armK e x y) (by unfold armK; grind) hk hu
  omega
theorem disc_near {a b w x y : Int} (hw : 0 ≤ w) (h : DiscP a b w x y) : a - w ≤ x ∧ x ≤ a + w ∧ b - w ≤ y ∧ y ≤ b + w := by
  unfold DiscP at h
  have h1 := sq_nonneg (x - a)
  have h2 := sq_nonneg (y - b)
  have a1 := abs_le_of_sq hw (show (x - a) * (x - a) ≤ w * w by omega)
  have a2 := abs_le_of_sq hw (show (y - b) * (y - b) ≤ w * w by omega)
  omega
theorem square_near {a b w x y : Int} (h : SquareP a b w x y) : a - w ≤ x ∧ x ≤ a + w ∧ b - w ≤ y ∧ y ≤ b + w := by
  unfold SquareP at h; omega
/-- What is near a point of a box is near the box. -/
theorem moved_sq {e : Ed} (h : moved e = true) : 1 ≤ sqE e := by
  simp only [moved, Bool.or_eq_true, Bool.not_eq_true', beq_eq_false_iff_ne, ne_eq] at h
  have h1 := sq_nonneg (e.x1 - e.x0)
  have h2 := sq_nonneg (e.y1 - e.y0)
  unfold sqE
  rcases h with h | h
  · have := sq_pos (a := e.x1 - e.x0) (by omega); omega
  · have := sq_pos (a := e.y1 - e.y0) (by omega); omega
theorem pieces_moved {c : Ct} : ∀ e ∈ piecesC c, moved e = true := by
  intro e he
  unfold piecesC at he
  rw [List.mem_append, List.mem_filter] at he
  rcases he with he | he
  · exact he.2
  · split at he
    · rename_i hh
      rw [List.mem_singleton] at he; subst he
      simp only [Bool.and_eq_true] at hh; exact hh.2
    · simp at he
theorem cov_box {l : List Sg} {s : Sy} {x y : Int} (hm : mayB l = true) (hw : 0 ≤ s.wide) (h : covL l s x y = true) :
    ∃ b, boxL l = (b, true) ∧ b.x0 - s.wide ≤ x ∧ x ≤ b.x1 + s.wide ∧ b.y0 - s.wide ≤ y ∧ y ≤ b.y1 + s.wide := by
  rw [covL_iff] at h
  obtain ⟨c, hc, h⟩ := h
  have hl0 : l ≠ [] := by
    rintro rfl
    have : ctsL [] = [] := rfl
    rw [this] at hc; simp at hc
  have hbl : boxL l = (boxFrom l, true) := by unfold boxL; rw [if_neg (by simp [hl0, hm])]
  have hib := box_is hm hl0
  have hpt : ∀ p ∈ ptC c, InB (boxFrom l) p.1 p.2 := fun p hp => hib.all p (by
    have : pts l = (ctsL l).flatMap ptC := by rw [← pts_pathOf, pathOf_ctsL hm]
    rw [this, List.mem_flatMap]; exact ⟨c, hc, hp⟩)
  have hst : InB (boxFrom l) c.x c.y := hpt (c.x, c.y) (by unfold ptC; simp)
  refine ⟨boxFrom l, hbl, ?_⟩
  rcases h with ⟨_, _, h | h⟩ | ⟨i, hi, h⟩
  · have := disc_near hw h.2
    unfold InB at hst; omega
  · have := square_near h.2
    unfold InB at hst; omega
  · have hmem := List.getElem_mem hi
    obtain ⟨p1, p2⟩ := pieces_pts (ctsL_good l c hc) _ hmem
    have q1 := hpt _ p1
    have q2 := hpt _ p2
    have hsq := moved_sq (pieces_moved _ hmem)
    unfold InB at q1 q2
    simp only at q1 q2
    rcases h with h | ⟨_, _, _, h⟩ | ⟨_, _, _, h⟩ | ⟨_, h⟩ | ⟨_, h⟩
    · have := on_near hw hsq h; omega
    · have := ahead_near hw hsq h; omega
    · have := behind_near hw hsq h; omega
    · have := disc_near hw h; omega
    · have := disc_near hw h; omega
theorem ptC_co {c : Ct} (hg : GoodC c) : ∀ p ∈ ptC c, co p.1 = true ∧ co p.2 = true := by
  intro p hp
  unfold ptC at hp
  rw [List.mem_cons, List.mem_flatMap] at hp
  rcases hp with rfl | ⟨e, he, hp⟩
  · exact ⟨hg.2.2.1, hg.2.2.2⟩
  · obtain ⟨a, b, c, d, f, g, _⟩ := edOK_iff.1 (hg.2.1 e he)
    rcases mem_ptE.1 hp with ⟨_, rfl⟩ | rfl
    · exact ⟨co_iff.2 c, co_iff.2 d⟩
    · exact ⟨co_iff.2 f, co_iff.2 g⟩
theorem box_bd {l : List Sg} {b : Bx} (hm : mayB l = true) (h : boxL l = (b, true)) :
    -8191 ≤ b.x0 ∧ b.x0 ≤ 8191 ∧ -8191 ≤ b.x1 ∧ b.x1 ≤ 8191 ∧ -8191 ≤ b.y0 ∧ b.y0 ≤ 8191 ∧ -8191 ≤ b.y1 ∧ b.y1 ≤ 8191 := by
  have hl0 : l ≠ [] := by rintro rfl; cases h
  have hbl : b = boxFrom l := by
    unfold boxL at h; rw [if_neg (by simp [hl0, hm])] at h; exact (Prod.mk.inj h).1.symm
  have hib := box_is hm hl0
  rw [← hbl] at hib
  have hco : ∀ p ∈ pts l, (-8191 ≤ p.1 ∧ p.1 ≤ 8191) ∧ (-8191 ≤ p.2 ∧ p.2 ≤ 8191) := by
    intro p hp
    have he : pts l = (ctsL l).flatMap ptC := by rw [← pts_pathOf, pathOf_ctsL hm]
    rw [he, List.mem_flatMap] at hp
    obtain ⟨c, hc, hp⟩ := hp
    obtain ⟨h1, h2⟩ := ptC_co (ctsL_good l c hc) p hp
    exact ⟨co_iff.1 h1, co_iff.1 h2⟩
  obtain ⟨p1, h1, e1⟩ := hib.x0
  obtain ⟨p2, h2, e2⟩ := hib.x1
  obtain ⟨p3, h3, e3⟩ := hib.y0
  obtain ⟨p4, h4, e4⟩ := hib.y1
  have a1 := hco p1 h1
  have a2 := hco p2 h2
  have a3 := hco p3 h3
  have a4 := hco p4 h4
  omega
end Go.Proofs.Ytbbffeddlgfeiaa
