/- The plain law of FlatNear: the lines lie in the box of their bow; their middles are near the bow. -/
import Derived.Test.YtbpeoejjjllieaaFlatP
namespace Go.Proofs.Ytbpeoejjjllieaa

theorem plc1_box {a b X C Y n k : Int} (hn : 1 ≤ n) (hk : 0 ≤ k ∧ k ≤ n) (hX : a ≤ X ∧ X ≤ b) (hC : a ≤ C ∧ C ≤ b) (hY : a ≤ Y ∧ Y ≤ b) : a ≤ plc1 X C Y k n ∧ plc1 X C Y k n ≤ b := by
  have hnn : 0 < n * n := Int.mul_pos (by omega) (by omega)
  have p1 : 0 ≤ (n - k) * (n - k) := Int.mul_nonneg (by omega) (by omega)
  have p2 : 0 ≤ k * (n - k) := Int.mul_nonneg (by omega) (by omega)
  have p3 : 0 ≤ k * k := Int.mul_nonneg (by omega) (by omega)
  have q1 : 0 ≤ (X - a) * ((n - k) * (n - k)) := Int.mul_nonneg (by omega) p1
  have q2 : 0 ≤ (C - a) * (k * (n - k)) := Int.mul_nonneg (by omega) p2
  have q3 : 0 ≤ (Y - a) * (k * k) := Int.mul_nonneg (by omega) p3
  have r1 : 0 ≤ (b - X) * ((n - k) * (n - k)) := Int.mul_nonneg (by omega) p1
  have r2 : 0 ≤ (b - C) * (k * (n - k)) := Int.mul_nonneg (by omega) p2
  have r3 : 0 ≤ (b - Y) * (k * k) := Int.mul_nonneg (by omega) p3
  have e1 : (X * (n - k) * (n - k) + 2 * C * k * (n - k) + Y * k * k) - a * (n * n) = (X - a) * ((n - k) * (n - k)) + 2 * ((C - a) * (k * (n - k))) + (Y - a) * (k * k) := by grind
  have e2 : b * (n * n) - (X * (n - k) * (n - k) + 2 * C * k * (n - k) + Y * k * k) = (b - X) * ((n - k) * (n - k)) + 2 * ((b - C) * (k * (n - k))) + (b - Y) * (k * k) := by grind
  exact rnd_between _ _ a b hnn (by omega) (by omega)

/-- Two times the square of n by a place is near two times the place's own sum. -/
theorem plc1_near (X C Y k n : Int) (hn : 1 ≤ n) : -(n * n) ≤ 2 * (n * n * plc1 X C Y k n) - 2 * (X * (n - k) * (n - k) + 2 * C * k * (n - k) + Y * k * k) ∧ 2 * (n * n * plc1 X C Y k n) - 2 * (X * (n - k) * (n - k) + 2 * C * k * (n - k) + Y * k * k) ≤ n * n := by
  have hnn : 0 < n * n := Int.mul_pos (by omega) (by omega)
  have := rnd_bd (X * (n - k) * (n - k) + 2 * C * k * (n - k) + Y * k * k) (n * n) hnn
  unfold plc1
  omega
theorem pw_ge (far : Int) (h : far ≤ 65536) : far ≤ 4 * (pw far * pw far) := by
  unfold pw; repeat (first | (split; · omega) | omega)

theorem mid_near {X C Y n i P Q : Int} (hn : 1 ≤ n) (hf : X - 2 * C + Y ≤ 4 * (n * n) ∧ -(X - 2 * C + Y) ≤ 4 * (n * n))
    (hP : -(n * n) ≤ 2 * (n * n * P) - 2 * (X * (n - i) * (n - i) + 2 * C * i * (n - i) + Y * i * i) ∧ 2 * (n * n * P) - 2 * (X * (n - i) * (n - i) + 2 * C * i * (n - i) + Y * i * i) ≤ n * n)
    (hQ : -(n * n) ≤ 2 * (n * n * Q) - 2 * (X * (n - (i + 1)) * (n - (i + 1)) + 2 * C * (i + 1) * (n - (i + 1)) + Y * (i + 1) * (i + 1)) ∧ 2 * (n * n * Q) - 2 * (X * (n - (i + 1)) * (n - (i + 1)) + 2 * C * (i + 1) * (n - (i + 1)) + Y * (i + 1) * (i + 1)) ≤ n * n) :
    (X * (2 * n - 2 * i - 1) * (2 * n - 2 * i - 1) + 2 * C * (2 * i + 1) * (2 * n - 2 * i - 1) + Y * (2 * i + 1) * (2 * i + 1)) - (P + Q) * 2 * n * n ≤ 8 * n * n ∧
      (P + Q) * 2 * n * n - (X * (2 * n - 2 * i - 1) * (2 * n - 2 * i - 1) + 2 * C * (2 * i + 1) * (2 * n - 2 * i - 1) + Y * (2 * i + 1) * (2 * i + 1)) ≤ 8 * n * n := by
  have e : X * (2 * n - 2 * i - 1) * (2 * n - 2 * i - 1) + 2 * C * (2 * i + 1) * (2 * n - 2 * i - 1) + Y * (2 * i + 1) * (2 * i + 1) - 2 * (X * (n - i) * (n - i) + 2 * C * i * (n - i) + Y * i * i) - 2 * (X * (n - (i + 1)) * (n - (i + 1)) + 2 * C * (i + 1) * (n - (i + 1)) + Y * (i + 1) * (i + 1)) = -(X - 2 * C + Y) := by grind
  have e2 : (P + Q) * 2 * n * n = 2 * (n * n * P) + 2 * (n * n * Q) := by grind
  have e3 : 8 * n * n = 8 * (n * n) := by grind
  have hnn : 0 < n * n := Int.mul_pos (by omega) (by omega)
  omega

/-- What FlatNear asks of one line. -/
def boxed (e f : Ed) : Prop :=
  (if e.bent then min (min e.x0 e.x1) e.cx ≤ f.x1 ∧ f.x1 ≤ max (max e.x0 e.x1) e.cx else min e.x0 e.x1 ≤ f.x1 ∧ f.x1 ≤ max e.x0 e.x1) ∧
    (if e.bent then min (min e.y0 e.y1) e.cy ≤ f.y1 ∧ f.y1 ≤ max (max e.y0 e.y1) e.cy else min e.y0 e.y1 ≤ f.y1 ∧ f.y1 ≤ max e.y0 e.y1)

theorem lnsTo_get (e : Ed) (n : Int) (k i : Nat) (h : i < (lnsTo e n k).length) : (lnsTo e n k)[i] = ⟨plcX e n i, plcY e n i, false, 0, 0, plcX e n (i + 1), plcY e n (i + 1)⟩ := by
  simp [lnsTo]
theorem plcX_at (e : Ed) (n : Int) (i : Nat) : plcX e n (i + 1) = plc1 e.x0 e.cx e.x1 ((i : Int) + 1) n := by simp [plcX]
theorem plcY_at (e : Ed) (n : Int) (i : Nat) : plcY e n (i + 1) = plc1 e.y0 e.cy e.y1 ((i : Int) + 1) n := by simp [plcY]

theorem plcX_near (e : Ed) (n : Int) (i : Nat) (hn : 1 ≤ n) :
    -(n * n) ≤ 2 * (n * n * plcX e n i) - 2 * (e.x0 * (n - i) * (n - i) + 2 * e.cx * i * (n - i) + e.x1 * i * i) ∧ 2 * (n * n * plcX e n i) - 2 * (e.x0 * (n - i) * (n - i) + 2 * e.cx * i * (n - i) + e.x1 * i * i) ≤ n * n := by
  by_cases h : i = 0
  · subst h
    have hnn : 0 < n * n := Int.mul_pos (by omega) (by omega)
    have : n * n * e.x0 = e.x0 * (n - ((0 : Nat) : Int)) * (n - ((0 : Nat) : Int)) + 2 * e.cx * ((0 : Nat) : Int) * (n - ((0 : Nat) : Int)) + e.x1 * ((0 : Nat) : Int) * ((0 : Nat) : Int) := by grind
    simp only [plcX, if_true]
    omega
  · have := plc1_near e.x0 e.cx e.x1 i n hn
    simp only [plcX, h, if_false]; exact this
theorem plcY_near (e : Ed) (n : Int) (i : Nat) (hn : 1 ≤ n) :
    -(n * n) ≤ 2 * (n * n * plcY e n i) - 2 * (e.y0 * (n - i) * (n - i) + 2 * e.cy * i * (n - i) + e.y1 * i * i) ∧ 2 * (n * n * plcY e n i) - 2 * (e.y0 * (n - i) * (n - i) + 2 * e.cy * i * (n - i) + e.y1 * i * i) ≤ n * n := by
  by_cases h : i = 0
  · subst h
    have hnn : 0 < n * n := Int.mul_pos (by omega) (by omega)
    have : n * n * e.y0 = e.y0 * (n - ((0 : Nat) : Int)) * (n - ((0 : Nat) : Int)) + 2 * e.cy * ((0 : Nat) : Int) * (n - ((0 : Nat) : Int)) + e.y1 * ((0 : Nat) : Int) * ((0 : Nat) : Int) := by grind
    simp only [plcY, if_true]
    omega
  · have := plc1_near e.y0 e.cy e.y1 i n hn
    simp only [plcY, h, if_false]; exact this

theorem lns_boxed {e : Ed} (h : edOK e = true) (i : Nat) (hi : i < (lns e).length) : boxed e (lns e)[i] := by
  cases hb : e.bent
  · have hl := lns_flat h hb
    have hs : (lns e)[i] = e := by
      have h1 : (lns e).length = 1 := by rw [hl]; rfl
      have h0 : i = 0 := by omega
      subst h0; simp [hl]
    rw [hs]; unfold boxed; simp only [hb, Bool.false_eq_true, if_false]; omega
  · have hl := lns_yes h hb
    have hn := cntI_bd h hb
    have hs : (lns e)[i] = ⟨plcX e (cntI e) i, plcY e (cntI e) i, false, 0, 0, plcX e (cntI e) (i + 1), plcY e (cntI e) (i + 1)⟩ := by
      simp only [hl]; exact lnsTo_get _ _ _ _ _
    have hi2 : i < (cntI e).toNat := by rw [← lns_len]; exact hi
    rw [hs]; unfold boxed; simp only [hb, if_true, plcX_at, plcY_at]
    have bx := plc1_box (a := min (min e.x0 e.x1) e.cx) (b := max (max e.x0 e.x1) e.cx) (X := e.x0) (C := e.cx) (Y := e.x1) (n := cntI e) (k := (i : Int) + 1) hn.1 (by omega) (by omega) (by omega) (by omega)
    have bY := plc1_box (a := min (min e.y0 e.y1) e.cy) (b := max (max e.y0 e.y1) e.cy) (X := e.y0) (C := e.cy) (Y := e.y1) (n := cntI e) (k := (i : Int) + 1) hn.1 (by omega) (by omega) (by omega) (by omega)
    exact ⟨bx, bY⟩

theorem plcX_range {e : Ed} {n a b : Int} (i : Nat) (hn : 1 ≤ n) (hi : (i : Int) ≤ n) (h0 : a ≤ e.x0 ∧ e.x0 ≤ b) (h1 : a ≤ e.cx ∧ e.cx ≤ b) (h2 : a ≤ e.x1 ∧ e.x1 ≤ b) : a ≤ plcX e n i ∧ plcX e n i ≤ b := by
  unfold plcX; split
  · exact h0
  · exact plc1_box hn (by omega) h0 h1 h2
theorem plcY_range {e : Ed} {n a b : Int} (i : Nat) (hn : 1 ≤ n) (hi : (i : Int) ≤ n) (h0 : a ≤ e.y0 ∧ e.y0 ≤ b) (h1 : a ≤ e.cy ∧ e.cy ≤ b) (h2 : a ≤ e.y1 ∧ e.y1 ≤ b) : a ≤ plcY e n i ∧ plcY e n i ≤ b := by
  unfold plcY; split
  · exact h0
  · exact plc1_box hn (by omega) h0 h1 h2
/-- Each line's ends lie where the edge's points lie. -/
theorem lns_range {e : Ed} {a b : Int} (h : edOK e = true) (hx0 : a ≤ e.x0 ∧ e.x0 ≤ b) (hx1 : a ≤ e.cx ∧ e.cx ≤ b) (hx2 : a ≤ e.x1 ∧ e.x1 ≤ b) (hy0 : a ≤ e.y0 ∧ e.y0 ≤ b) (hy1 : a ≤ e.cy ∧ e.cy ≤ b) (hy2 : a ≤ e.y1 ∧ e.y1 ≤ b) (i : Nat) (hi : i < (lns e).length) :
    (a ≤ (lns e)[i].x0 ∧ (lns e)[i].x0 ≤ b) ∧ (a ≤ (lns e)[i].y0 ∧ (lns e)[i].y0 ≤ b) ∧ (a ≤ (lns e)[i].x1 ∧ (lns e)[i].x1 ≤ b) ∧ (a ≤ (lns e)[i].y1 ∧ (lns e)[i].y1 ≤ b) := by
  cases hb : e.bent
  · have hl := lns_flat h hb
    have hs : (lns e)[i] = e := by
      have h1 : (lns e).length = 1 := by rw [hl]; rfl
      have h0 : i = 0 := by omega
      subst h0; simp [hl]
    rw [hs]; exact ⟨hx0, hy0, hx2, hy2⟩
  · have hl := lns_yes h hb
    have hn := cntI_bd h hb
    have hs : (lns e)[i] = ⟨plcX e (cntI e) i, plcY e (cntI e) i, false, 0, 0, plcX e (cntI e) (i + 1), plcY e (cntI e) (i + 1)⟩ := by
      simp only [hl]; exact lnsTo_get _ _ _ _ _
    have hi2 : i < (cntI e).toNat := by rw [← lns_len]; exact hi
    rw [hs]
    exact ⟨plcX_range i hn.1 (by omega) hx0 hx1 hx2, plcY_range i hn.1 (by omega) hy0 hy1 hy2, plcX_range (i + 1) hn.1 (by omega) hx0 hx1 hx2, plcY_range (i + 1) hn.1 (by omega) hy0 hy1 hy2⟩
theorem lns_count {e : Ed} (h : edOK e = true) : (lns e).length = 1 ∨ (lns e).length = 2 ∨ (lns e).length = 4 ∨ (lns e).length = 8 ∨ (lns e).length = 16 ∨ (lns e).length = 32 ∨ (lns e).length = 64 ∨ (lns e).length = 128 := by
  rw [lns_len]
  cases hb : e.bent
  · rw [cntI_flat h hb]; omega
  · rw [cntI_yes h hb]; have := pw_cases (farI e.x0 e.y0 e.cx e.cy e.x1 e.y1); omega

/-- What FlatNear asks of one line of a bow: its middle is near. -/
def midded (e f : Ed) (n : Int) (i : Int) : Prop :=
  ((e.x0 * (2 * n - 2 * i - 1) * (2 * n - 2 * i - 1) + 2 * e.cx * (2 * i + 1) * (2 * n - 2 * i - 1) + e.x1 * (2 * i + 1) * (2 * i + 1)) - (f.x0 + f.x1) * 2 * n * n ≤ 8 * n * n ∧
      (f.x0 + f.x1) * 2 * n * n - (e.x0 * (2 * n - 2 * i - 1) * (2 * n - 2 * i - 1) + 2 * e.cx * (2 * i + 1) * (2 * n - 2 * i - 1) + e.x1 * (2 * i + 1) * (2 * i + 1)) ≤ 8 * n * n) ∧
  ((e.y0 * (2 * n - 2 * i - 1) * (2 * n - 2 * i - 1) + 2 * e.cy * (2 * i + 1) * (2 * n - 2 * i - 1) + e.y1 * (2 * i + 1) * (2 * i + 1)) - (f.y0 + f.y1) * 2 * n * n ≤ 8 * n * n ∧
      (f.y0 + f.y1) * 2 * n * n - (e.y0 * (2 * n - 2 * i - 1) * (2 * n - 2 * i - 1) + 2 * e.cy * (2 * i + 1) * (2 * n - 2 * i - 1) + e.y1 * (2 * i + 1) * (2 * i + 1)) ≤ 8 * n * n)

theorem lns_midded {e : Ed} (h : edOK e = true) (hb : e.bent = true) (i : Nat) (hi : i < (lns e).length) : midded e (lns e)[i] (cntI e) i := by
  have hl := lns_yes h hb
  have hn := cntI_bd h hb
  have hs : (lns e)[i] = ⟨plcX e (cntI e) i, plcY e (cntI e) i, false, 0, 0, plcX e (cntI e) (i + 1), plcY e (cntI e) (i + 1)⟩ := by
    simp only [hl]; exact lnsTo_get _ _ _ _ _
  have hfar := cntI_yes h hb
  have hge := pw_ge (farI e.x0 e.y0 e.cx e.cy e.x1 e.y1) (by
    have := farI_le (x0 := e.x0) (y0 := e.y0) (cx := e.cx) (cy := e.cy) (x1 := e.x1) (y1 := e.y1) (by rw [edOK_iff] at h; exact edOK_mk h.1 h.2.1 h.2.2.1 h.2.2.2.1 h.2.2.2.2.1 h.2.2.2.2.2.1 (.inl rfl))
    omega)
  rw [← hfar] at hge
  have hfx : e.x0 - 2 * e.cx + e.x1 ≤ 4 * (cntI e * cntI e) ∧ -(e.x0 - 2 * e.cx + e.x1) ≤ 4 * (cntI e * cntI e) := by unfold farI sizeI at hge; omega
  have hfy : e.y0 - 2 * e.cy + e.y1 ≤ 4 * (cntI e * cntI e) ∧ -(e.y0 - 2 * e.cy + e.y1) ≤ 4 * (cntI e * cntI e) := by unfold farI sizeI at hge; omega
  rw [hs]
  have p1 := plcX_near e (cntI e) i hn.1
  have p2 := plcX_near e (cntI e) (i + 1) hn.1
  have q1 := plcY_near e (cntI e) i hn.1
  have q2 := plcY_near e (cntI e) (i + 1) hn.1
  rw [Int.natCast_succ] at p2 q2
  exact ⟨mid_near hn.1 hfx p1 p2, mid_near hn.1 hfy q1 q2⟩

theorem lns_cast {e : Ed} (h : edOK e = true) (hb : e.bent = true) : ((lns e).length : Int) = cntI e := by
  rw [lns_len]; have := cntI_bd h hb; omega

/-- A bow that bends more has no fewer lines. -/
theorem cnt_more {c : Int} (hc : 0 ≤ c ∧ c < 8000) : cntI ⟨0, 0, true, c, 0, 16, 0⟩ ≤ cntI ⟨0, 0, true, c + 40, 0, 16, 0⟩ := by
  have h1 : edOK ⟨0, 0, true, c, 0, 16, 0⟩ = true := edOK_mk (by omega) (by omega) (by omega) (by omega) (by omega) (by omega) (.inl rfl)
  have h2 : edOK ⟨0, 0, true, c + 40, 0, 16, 0⟩ = true := edOK_mk (by omega) (by omega) (by omega) (by omega) (by omega) (by omega) (.inl rfl)
  rw [cntI_yes h1 rfl, cntI_yes h2 rfl]
  have : farI 0 0 c 0 16 0 ≤ farI 0 0 (c + 40) 0 16 0 := by unfold farI sizeI; omega
  simp only
  unfold pw
  repeat' split
  all_goals omega

end Go.Proofs.Ytbpeoejjjllieaa
