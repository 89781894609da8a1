/- The plain side of layer 35: how long a piece is, places on a contour, which parts are drawn. -/
import Derived.Test.YtbbffeddlgfeiaaBackP
namespace Go.Proofs.Ytbbffeddlgfeiaa

/-- The root of a whole number, downwards, bit by bit. -/
def flrTo (n : Int) : Nat → Int
  | 0 => 0
  | k + 1 => if (flrTo n k + 2 ^ (31 - k)) * (flrTo n k + 2 ^ (31 - k)) ≤ n then flrTo n k + 2 ^ (31 - k) else flrTo n k
def flr (n : Int) : Int := flrTo n 32

theorem two_pos (k : Nat) : (0 : Int) < 2 ^ k := Int.pow_pos (by omega)
theorem flrTo_nonneg (n : Int) : ∀ k, 0 ≤ flrTo n k
  | 0 => Int.le_refl _
  | k + 1 => by
    have h := flrTo_nonneg n k
    have := two_pos (31 - k)
    unfold flrTo
    split <;> omega
theorem flr_nonneg (n : Int) : 0 ≤ flr n := flrTo_nonneg n 32
theorem flrTo_inv (n : Int) (h0 : 0 ≤ n) (hn : n < 18446744073709551616) : ∀ k, k ≤ 32 → ∃ m : Int, flrTo n k = m * 2 ^ (32 - k) ∧ 0 ≤ m ∧ m + 1 ≤ 2 ^ k ∧ flrTo n k * flrTo n k ≤ n ∧ n < (flrTo n k + 2 ^ (32 - k)) * (flrTo n k + 2 ^ (32 - k))
  | 0, _ => ⟨0, by simp [flrTo], by omega, by simp, by simpa [flrTo] using h0, by simp [flrTo]; omega⟩
  | k + 1, hk => by
    obtain ⟨m, h1, h2, h3, h4, h5⟩ := flrTo_inv n h0 hn k (by omega)
    have e1 : 32 - k = (31 - k) + 1 := by omega
    have e2 : 32 - (k + 1) = 31 - k := by omega
    have e3 : (2 : Int) ^ (32 - k) = 2 * 2 ^ (31 - k) := by rw [e1, Int.pow_succ]; omega
    have e4 : (2 : Int) ^ (k + 1) = 2 * 2 ^ k := by rw [Int.pow_succ]; omega
    have e5 : flrTo n (k + 1) = if (flrTo n k + 2 ^ (31 - k)) * (flrTo n k + 2 ^ (31 - k)) ≤ n then flrTo n k + 2 ^ (31 - k) else flrTo n k := rfl
    rw [e5, e2, e4]
    rw [e3] at h1 h5
    generalize (2 : Int) ^ (31 - k) = t at *
    generalize flrTo n k = r at *
    by_cases hc : (r + t) * (r + t) ≤ n
    · rw [if_pos hc]
      refine ⟨2 * m + 1, by rw [h1]; grind, by omega, by omega, hc, ?_⟩
      have : r + t + t = r + 2 * t := by omega
      rw [this]; exact h5
    · rw [if_neg hc]
      exact ⟨2 * m, by rw [h1]; grind, by omega, by omega, h4, by omega⟩
theorem flr_spec {n : Int} (h0 : 0 ≤ n) (hn : n < 18446744073709551616) : 0 ≤ flr n ∧ flr n < 4294967296 ∧ flr n * flr n ≤ n ∧ n < (flr n + 1) * (flr n + 1) := by
  obtain ⟨m, h1, h2, h3, h4, h5⟩ := flrTo_inv n h0 hn 32 (Nat.le_refl _)
  simp only [Nat.sub_self, Int.pow_zero, Int.mul_one] at h1 h5
  refine ⟨flr_nonneg n, ?_, h4, h5⟩
  show flrTo n 32 < _
  rw [h1]; omega
theorem sq_le {a b : Int} (ha : 0 ≤ a) (hab : a ≤ b) : a * a ≤ b * b := Int.mul_le_mul hab hab ha (by omega)
theorem flr_eq {n r : Int} (hr : 0 ≤ r) (h1 : r * r ≤ n) (h2 : n < (r + 1) * (r + 1)) (hn : n < 18446744073709551616) : flr n = r := by
  have h0 : 0 ≤ n := Int.le_trans (Int.mul_nonneg hr hr) h1
  obtain ⟨a, _, b, c⟩ := flr_spec h0 hn
  rcases Int.lt_trichotomy (flr n) r with h | h | h
  · have := sq_le (a := flr n + 1) (b := r) (by omega) (by omega); omega
  · exact h
  · have := sq_le (a := r + 1) (b := flr n) (by omega) (by omega); omega
theorem flr_le {n b : Int} (h0 : 0 ≤ n) (hn : n < 18446744073709551616) (hb : 0 ≤ b) (h : n < (b + 1) * (b + 1)) : flr n ≤ b := by
  obtain ⟨a, _, c, _⟩ := flr_spec h0 hn
  apply Decidable.byContradiction; intro hc
  have := sq_le (a := b + 1) (b := flr n) (by omega) (by omega); omega
theorem flr_ge {n b : Int} (h0 : 0 ≤ n) (hn : n < 18446744073709551616) (h : b * b ≤ n) (_hb : 0 ≤ b) : b ≤ flr n := by
  obtain ⟨a, _, _, c⟩ := flr_spec h0 hn
  apply Decidable.byContradiction; intro hc
  have := sq_le (a := flr n + 1) (b := b) (by omega) (by omega); omega

/-- How long a straight piece is. -/
def sqE (e : Ed) : Int := (e.x1 - e.x0) * (e.x1 - e.x0) + (e.y1 - e.y0) * (e.y1 - e.y0)
def lenE (e : Ed) : Int := flr (sqE e)
/-- Does it lead somewhere else? -/
def moved (e : Ed) : Bool := !(e.x0 == e.x1) || !(e.y0 == e.y1)
/-- A straight one on the page. -/
def Strt (e : Ed) : Prop := e.bent = false ∧ edOK e = true
theorem lenE_nonneg (e : Ed) : 0 ≤ lenE e := flr_nonneg _
theorem sq_bd {a A : Int} (h : -A ≤ a ∧ a ≤ A) : 0 ≤ a * a ∧ a * a ≤ A * A := by
  rcases Int.le_total 0 a with h0 | h0
  · exact ⟨Int.mul_nonneg h0 h0, sq_le h0 h.2⟩
  · have := sq_le (a := -a) (b := A) (by omega) (by omega)
    rw [Int.neg_mul_neg] at this
    exact ⟨Int.mul_nonneg_of_nonpos_of_nonpos h0 h0, this⟩
theorem sq_pos {a : Int} (h : a ≠ 0) : 1 ≤ a * a := by
  rcases Int.lt_or_gt_of_ne h with h | h
  · have := sq_le (a := 1) (b := -a) (by omega) (by omega); rw [Int.neg_mul_neg] at this; omega
  · have := sq_le (a := 1) (b := a) (by omega) (by omega); omega
theorem sqE_bd {e : Ed} (h : edOK e = true) : 0 ≤ sqE e ∧ sqE e ≤ 536739848 ∧ (0 ≤ (e.x1 - e.x0) * (e.x1 - e.x0) ∧ (e.x1 - e.x0) * (e.x1 - e.x0) ≤ 268369924) ∧ (0 ≤ (e.y1 - e.y0) * (e.y1 - e.y0) ∧ (e.y1 - e.y0) * (e.y1 - e.y0) ≤ 268369924) := by
  obtain ⟨h0, h1, _, _, h4, h5, _⟩ := edOK_iff.1 h
  have a := sq_bd (a := e.x1 - e.x0) (A := 16382) (by omega)
  have b := sq_bd (a := e.y1 - e.y0) (A := 16382) (by omega)
  unfold sqE
  omega
theorem lenE_bd {e : Ed} (h : edOK e = true) : 0 ≤ lenE e ∧ lenE e ≤ 23167 := by
  have := sqE_bd h
  exact ⟨lenE_nonneg e, flr_le (by omega) (by omega) (by omega) (by omega)⟩
theorem lenE_pos {e : Ed} (h : edOK e = true) (hm : moved e = true) : 1 ≤ lenE e := by
  have hb := sqE_bd h
  refine flr_ge (by omega) (by omega) ?_ (by omega)
  unfold sqE at *
  simp only [moved, Bool.or_eq_true, Bool.not_eq_true', beq_eq_false_iff_ne, ne_eq] at hm
  rcases hm with hm | hm
  · have := sq_pos (a := e.x1 - e.x0) (by omega); omega
  · have := sq_pos (a := e.y1 - e.y0) (by omega); omega
theorem lenE_still {e : Ed} (h : moved e = false) : lenE e = 0 := by
  simp only [moved, Bool.or_eq_false_iff, Bool.not_eq_false', beq_iff_eq] at h
  have : sqE e = 0 := by unfold sqE; rw [h.1, h.2]; simp
  unfold lenE
  rw [this]
  exact flr_eq (by omega) (by omega) (by omega) (by omega)

/-- The piece that closes a contour. -/
def backE (c : Ct) : Ed := ⟨endX c.x c.es, endY c.y c.es, false, 0, 0, c.x, c.y⟩
/-- A contour's pieces. -/
def piecesC (c : Ct) : List Ed := c.es.filter moved ++ (if c.shut && moved (backE c) then [backE c] else [])
/-- How long they are. -/
def sumL : List Ed → Int
  | [] => 0
  | e :: l => lenE e + sumL l
theorem sumL_nonneg : ∀ l, 0 ≤ sumL l
  | [] => Int.le_refl _
  | e :: l => by have := sumL_nonneg l; have := lenE_nonneg e; simp only [sumL]; omega
theorem sumL_app (a b : List Ed) : sumL (a ++ b) = sumL a + sumL b := by
  induction a with
  | nil => simp [sumL]
  | cons e a ih => rw [List.cons_append]; simp only [sumL]; omega
theorem sumL_take (l : List Ed) (k : Nat) (h : k < l.length) : sumL (l.take (k + 1)) = sumL (l.take k) + lenE l[k] := by
  rw [List.take_succ_eq_append_getElem h, sumL_app]; simp [sumL]
theorem sumL_take_le (l : List Ed) (k : Nat) : sumL (l.take k) ≤ sumL l := by
  have := sumL_app (l.take k) (l.drop k)
  rw [List.take_append_drop] at this
  have := sumL_nonneg (l.drop k); omega
theorem sumL_bd : ∀ {l : List Ed} (_ : ∀ e ∈ l, edOK e = true), sumL l ≤ 23167 * l.length
  | [], _ => by simp [sumL]
  | e :: l, h => by
    have := sumL_bd (l := l) (fun d hd => h d (by simp [hd]))
    have := lenE_bd (h e (by simp))
    simp only [sumL, List.length_cons]; omega
/-- Where each one ends. -/
def endsL (l : List Ed) : List Int := (List.range l.length).map fun i => sumL (l.take (i + 1))
theorem endsL_len (l : List Ed) : (endsL l).length = l.length := by simp [endsL]
theorem endsL_get (l : List Ed) (i : Nat) (h : i < (endsL l).length) : (endsL l)[i] = sumL (l.take (i + 1)) := by simp [endsL]
theorem endsL_snoc (l : List Ed) (e : Ed) : endsL (l ++ [e]) = endsL l ++ [sumL l + lenE e] := by
  apply List.ext_getElem
  · simp [endsL_len]
  · intro i h1 h2
    rw [endsL_get]
    rw [endsL_len, List.length_append, List.length_singleton] at h1
    by_cases hi : i < l.length
    · rw [List.getElem_append_left (by rw [endsL_len]; exact hi), endsL_get, List.take_append_of_le_length (by omega)]
    · have : i = l.length := by omega
      subst this
      rw [List.getElem_append_right (by rw [endsL_len]; omega)]
      rw [List.take_of_length_le (by simp), sumL_app]
      simp [sumL]
theorem endsL_last (l : List Ed) (h : l.length - 1 < (endsL l).length) : (endsL l)[l.length - 1] = sumL l := by
  rw [endsL_get, List.take_of_length_le (by omega)]

/-- A place on a piece. -/
def atE (e : Ed) (k : Int) : Int × Int := (rnd (e.x0 * lenE e + (e.x1 - e.x0) * k) (lenE e), rnd (e.y0 * lenE e + (e.y1 - e.y0) * k) (lenE e))
/-- A place on pieces. -/
def atW : List Ed → Int → Int × Int
  | [], _ => (0, 0)
  | e :: l, s => if s ≤ lenE e then atE e s else atW l (s - lenE e)
theorem atW_at : ∀ (l : List Ed) (i : Nat) (s : Int) (h : i < l.length), (0 < i → sumL (l.take i) < s) → s ≤ sumL (l.take (i + 1)) → atW l s = atE l[i] (s - sumL (l.take i))
  | [], _, _, h, _, _ => by simp at h
  | e :: l, 0, s, _, _, h2 => by
    simp [sumL] at h2
    simp [atW, sumL, h2]
  | e :: l, i + 1, s, h, h1, h2 => by
    have h1' := h1 (by omega)
    simp only [List.take_succ_cons, sumL] at h1' h2
    have := sumL_nonneg (l.take i)
    have hn : ¬ s ≤ lenE e := by omega
    have ih := atW_at l i (s - lenE e) (by simpa using h) (fun _ => by omega) (by omega)
    simp only [atW, if_neg hn, List.take_succ_cons, sumL, List.getElem_cons_succ]
    rw [ih]
    congr 1; omega
/-- A piece's end, where it lies between two places. -/
def innE (t : Int) (e : Ed) (a b : Int) : List Sg := if a < t ∧ t < b then [⟨2, e.x1, e.y1, 0, 0⟩] else []
/-- The ends between two places. -/
def innF (t : Int) : List Ed → Int → Int → List Sg
  | [], _, _ => []
  | e :: l, a, b => innE (t + lenE e) e a b ++ innF (t + lenE e) l a b
def innW (l : List Ed) (a b : Int) : List Sg := innF 0 l a b
theorem innF_snoc : ∀ (l : List Ed) (t : Int) (e : Ed) (a b : Int), innF t (l ++ [e]) a b = innF t l a b ++ innE (t + sumL l + lenE e) e a b
  | [], t, e, a, b => by simp [innF, sumL]
  | d :: l, t, e, a, b => by
    have h : t + sumL (d :: l) + lenE e = t + lenE d + sumL l + lenE e := by simp only [sumL]; omega
    rw [h, List.cons_append]
    simp only [innF]
    rw [innF_snoc l, List.append_assoc]
theorem innW_take (l : List Ed) (k : Nat) (h : k < l.length) (a b : Int) : innW (l.take (k + 1)) a b = innW (l.take k) a b ++ innE (sumL (l.take (k + 1))) l[k] a b := by
  unfold innW
  rw [sumL_take l k h, List.take_succ_eq_append_getElem h, innF_snoc, Int.zero_add]
theorem innE_len (t : Int) (e : Ed) (a b : Int) : (innE t e a b).length ≤ 1 := by unfold innE; split <;> simp
theorem innF_len : ∀ (l : List Ed) (t a b : Int), (innF t l a b).length ≤ l.length
  | [], _, _, _ => by simp [innF]
  | e :: l, t, a, b => by
    have := innF_len l (t + lenE e) a b
    have := innE_len (t + lenE e) e a b
    simp only [innF, List.length_append, List.length_cons]
    omega
/-- The part from a place to a place. -/
def partW (l : List Ed) (a b : Int) : List Sg := ⟨1, (atW l a).1, (atW l a).2, 0, 0⟩ :: (innW l a b ++ [⟨2, (atW l b).1, (atW l b).2, 0, 0⟩])
theorem partW_len (l : List Ed) (a b : Int) : (partW l a b).length ≤ l.length + 2 := by
  have := innF_len l 0 a b
  simp only [partW, innW, List.length_cons, List.length_append, List.length_nil]; omega

/-- So many lengths of the row, round and round. -/
def pre (on : List Int) : Nat → Int
  | 0 => 0
  | k + 1 => pre on k + on.getD (k % on.length) 0
/-- What the k-th length draws. -/
def dashAt (on : List Int) (f : Int) (ps : List Ed) (j : Nat) : List Sg :=
  if j % 2 = 0 ∧ 0 < sumL ps ∧ pre on j - f < sumL ps ∧ (0 < pre on (j + 1) - f ∨ (pre on (j + 1) - f = 0 ∧ pre on j - f = 0)) then partW ps (max (pre on j - f) 0) (min (pre on (j + 1) - f) (sumL ps)) else []
def dashTo (on : List Int) (f : Int) (ps : List Ed) (k : Nat) : List Sg := (List.range k).flatMap (dashAt on f ps)
/-- So many are enough. -/
def bnd (on : List Int) (f n : Int) : Nat := ((n + f).toNat + 1) * on.length
def dashW (on : List Int) (f : Int) (ps : List Ed) : List Sg := dashTo on f ps (bnd on f (sumL ps))
/-- What is drawn of a contour; of a path. -/
def dashC (on : List Int) (f : Int) (c : Ct) : List Sg := dashW on f (piecesC c)
def dashL (on : List Int) (f : Int) (l : List Sg) : List Sg := (ctsL l).flatMap (dashC on f)
def cutL (on : List Int) (f : Int) (l : List Sg) : List Sg × Int := if on = [] then (l, 0) else if 300 < (dashL on f l).length then ([], 5) else (dashL on f l, 0)
/-- May lengths be? -/
def lensB (on : List Int) : Bool := decide (on.length ≤ 11) && on.all (fun v => decide (0 ≤ v) && decide (v ≤ 32767)) && (decide (0 < on.sum) || on.isEmpty)
/-- Lengths: some, none below 0, not all 0. -/
structure Row (on : List Int) : Prop where
  nonneg : ∀ v ∈ on, 0 ≤ v
  most : ∀ v ∈ on, v ≤ 32767
  some : 0 < on.sum

section
variable {on : List Int}
theorem Row.ne (h : Row on) : on ≠ [] := by rintro rfl; have := h.some; simp at this
theorem Row.len (h : Row on) : 0 < on.length := by have := h.ne; cases on with | nil => exact absurd rfl this | cons a l => simp
theorem Row.get (h : Row on) (k : Nat) : 0 ≤ on.getD (k % on.length) 0 ∧ on.getD (k % on.length) 0 ≤ 32767 := by
  have hl : k % on.length < on.length := Nat.mod_lt _ h.len
  rw [List.getD_eq_getElem?_getD, List.getElem?_eq_getElem hl]
  exact ⟨h.nonneg _ (List.getElem_mem hl), h.most _ (List.getElem_mem hl)⟩
theorem Row.step (h : Row on) (k : Nat) : pre on k ≤ pre on (k + 1) ∧ pre on (k + 1) ≤ pre on k + 32767 := by
  have := h.get k; simp only [pre]; omega
theorem Row.mono (h : Row on) {j k : Nat} (hjk : j ≤ k) : pre on j ≤ pre on k := by
  induction k with
  | zero => have : j = 0 := by omega
            subst this; exact Int.le_refl _
  | succ k ih =>
    rcases Nat.lt_or_ge k j with h1 | h1
    · have : j = k + 1 := by omega
      subst this; exact Int.le_refl _
    · have := ih h1; have := (h.step k).1; omega
theorem Row.nonnegP (h : Row on) (k : Nat) : 0 ≤ pre on k := h.mono (j := 0) (Nat.zero_le _)
theorem pre_le_sum (on : List Int) : ∀ k, k ≤ on.length → pre on k = (on.take k).sum
  | 0, _ => by simp [pre]
  | k + 1, hk => by
    have hl : k < on.length := hk
    have := pre_le_sum on k (by omega)
    rw [List.take_succ_eq_append_getElem hl, List.sum_append, ← this]
    simp only [pre, Nat.mod_eq_of_lt hl]
    rw [List.getD_eq_getElem?_getD, List.getElem?_eq_getElem hl]
    simp
theorem pre_len (on : List Int) : pre on on.length = on.sum := by rw [pre_le_sum on _ (Nat.le_refl _), List.take_length]
theorem pre_round (on : List Int) : ∀ k, pre on (on.length + k) = on.sum + pre on k
  | 0 => by rw [Nat.add_zero, pre_len]; simp [pre]
  | k + 1 => by
    have := pre_round on k
    rw [← Nat.add_assoc]
    simp only [pre, Nat.add_mod_left]
    omega
theorem pre_rounds (on : List Int) (m : Nat) : pre on (m * on.length) = m * on.sum := by
  induction m with
  | zero => simp [pre]
  | succ m ih => rw [Nat.succ_mul, Nat.add_comm, pre_round, ih]; grind
/-- A row twice is the row. -/
theorem pre_dbl (on : List Int) : ∀ k, pre (on ++ on) k = pre on k
  | 0 => rfl
  | k + 1 => by
    rcases Nat.eq_zero_or_pos on.length with h0 | h0
    · have : on = [] := List.eq_nil_of_length_eq_zero h0
      subst this; rfl
    · simp only [pre]
      rw [pre_dbl on k]
      congr 1
      have hb : k % on.length < on.length := Nat.mod_lt _ h0
      have h1 : k % (on ++ on).length < (on ++ on).length := Nat.mod_lt _ (by rw [List.length_append]; omega)
      have h2 : k % (on ++ on).length % on.length = k % on.length := by rw [List.length_append, ← Nat.two_mul]; exact Nat.mod_mul_left_mod _ _ _
      rw [List.getD_eq_getElem?_getD, List.getD_eq_getElem?_getD, List.getElem?_append]
      rw [List.length_append] at h1 h2
      rw [List.length_append]
      split
      · rename_i h
        rw [Nat.mod_eq_of_lt h] at h2; rw [h2]
      · rename_i h
        rw [Nat.mod_eq_sub_mod (by omega), Nat.mod_eq_of_lt (by omega)] at h2; rw [h2]
theorem Row.dbl (h : Row on) : Row (on ++ on) := ⟨fun v hv => h.nonneg v (by simpa using hv), fun v hv => h.most v (by simpa using hv), by rw [List.sum_append]; have := h.some; omega⟩
theorem dashAt_dbl (on : List Int) : dashAt (on ++ on) = dashAt on := by funext f ps j; simp only [dashAt, pre_dbl]
theorem dashTo_dbl (on : List Int) : dashTo (on ++ on) = dashTo on := by funext f ps j; simp only [dashTo, dashAt_dbl]

theorem dashTo_succ (on : List Int) (f : Int) (ps : List Ed) (k : Nat) : dashTo on f ps (k + 1) = dashTo on f ps k ++ dashAt on f ps k := by
  simp [dashTo, List.range_succ]
theorem dashAt_past (h : Row on) {f : Int} {ps : List Ed} {k j : Nat} (hk : sumL ps ≤ pre on k - f) (hj : k ≤ j) : dashAt on f ps j = [] := by
  have := h.mono hj
  unfold dashAt
  rw [if_neg (by omega)]
theorem dashTo_past (h : Row on) {f : Int} {ps : List Ed} {k : Nat} (hk : sumL ps ≤ pre on k - f) : ∀ d, dashTo on f ps (k + d) = dashTo on f ps k
  | 0 => rfl
  | d + 1 => by rw [← Nat.add_assoc, dashTo_succ, dashAt_past h hk (by omega), List.append_nil, dashTo_past h hk d]
theorem dashTo_same (h : Row on) {f : Int} {ps : List Ed} {k k' : Nat} (hk : sumL ps ≤ pre on k - f) (hk' : sumL ps ≤ pre on k' - f) : dashTo on f ps k = dashTo on f ps k' := by
  rcases Nat.le_total k k' with hl | hl
  · have := dashTo_past h hk (k' - k); rw [show k + (k' - k) = k' by omega] at this; exact this.symm
  · have := dashTo_past h hk' (k - k'); rw [show k' + (k - k') = k by omega] at this; exact this
theorem bnd_past (h : Row on) {f n : Int} : n ≤ pre on (bnd on f n) - f := by
  unfold bnd
  rw [pre_rounds]
  have h1 := h.some
  have h2 : ((((n + f).toNat + 1 : Nat) : Int)) * 1 ≤ (((n + f).toNat + 1 : Nat) : Int) * on.sum := Int.mul_le_mul_of_nonneg_left (by omega) (by omega)
  omega
theorem lt_bnd (h : Row on) {f n : Int} {k : Nat} (hk : pre on k - f < n) : k < bnd on f n := by
  apply Decidable.byContradiction; intro hc
  have := h.mono (show bnd on f n ≤ k by omega)
  have := bnd_past h (f := f) (n := n); omega
theorem dashTo_all (h : Row on) {f : Int} {ps : List Ed} {k : Nat} (hk : sumL ps ≤ pre on k - f) : dashTo on f ps k = dashW on f ps := dashTo_same h hk (bnd_past h)
theorem dashW_dbl (h : Row on) (f : Int) (ps : List Ed) : dashW (on ++ on) f ps = dashW on f ps := by
  unfold dashW
  rw [dashTo_dbl]
  refine dashTo_same h ?_ (bnd_past h)
  have := bnd_past h.dbl (f := f) (n := sumL ps)
  rwa [pre_dbl] at this
theorem dashW_none {ps : List Ed} (h : sumL ps = 0) (on : List Int) (f : Int) : dashW on f ps = [] := by
  unfold dashW dashTo
  rw [List.flatMap_eq_nil_iff]
  intro j _
  unfold dashAt
  rw [if_neg (by omega)]
theorem dashTo_len (on : List Int) (f : Int) (ps : List Ed) {k k' : Nat} (h : k ≤ k') : (dashTo on f ps k).length ≤ (dashTo on f ps k').length := by
  induction k' with
  | zero => have : k = 0 := by omega
            subst this; exact Nat.le_refl _
  | succ k' ih =>
    rcases Nat.lt_or_ge k' k with h1 | h1
    · have : k = k' + 1 := by omega
      subst this; exact Nat.le_refl _
    · have := ih h1; rw [dashTo_succ, List.length_append]; omega
theorem dashTo_le (h : Row on) (f : Int) (ps : List Ed) (k : Nat) : (dashTo on f ps k).length ≤ (dashW on f ps).length := by
  rcases Nat.le_total k (bnd on f (sumL ps)) with hl | hl
  · exact dashTo_len on f ps hl
  · have := dashTo_past h (bnd_past h (f := f) (n := sumL ps)) (k - bnd on f (sumL ps))
    rw [show bnd on f (sumL ps) + (k - bnd on f (sumL ps)) = k by omega] at this
    rw [this]; exact Nat.le_refl _
/-- A round more that is passed by says nothing. -/
theorem dashTo_round (h : Row on) (he : on.length % 2 = 0) {f : Int} (hf : 1 ≤ f) (ps : List Ed) : ∀ k, dashTo on (f + on.sum) ps (on.length + k) = dashTo on f ps k
  | 0 => by
    rw [Nat.add_zero]
    have hz : dashTo on f ps 0 = [] := rfl
    rw [hz]
    unfold dashTo
    rw [List.flatMap_eq_nil_iff]
    intro j hj
    rw [List.mem_range] at hj
    have h1 := h.mono (show j + 1 ≤ on.length by omega)
    rw [pre_len] at h1
    unfold dashAt
    rw [if_neg (by omega)]
  | k + 1 => by
    rw [← Nat.add_assoc, dashTo_succ, dashTo_succ, dashTo_round h he hf ps k]
    congr 1
    have e1 := pre_round on k
    have e2 : pre on (on.length + k + 1) = on.sum + pre on (k + 1) := pre_round on (k + 1)
    unfold dashAt
    rw [e1, e2]
    have p : (on.length + k) % 2 = k % 2 := by omega
    have a1 : on.sum + pre on k - (f + on.sum) = pre on k - f := by omega
    have a2 : on.sum + pre on (k + 1) - (f + on.sum) = pre on (k + 1) - f := by omega
    rw [p, a1, a2]
theorem dashW_round (h : Row on) (he : on.length % 2 = 0) {f : Int} (hf : 1 ≤ f) (ps : List Ed) : dashW on (f + on.sum) ps = dashW on f ps := by
  have h1 := bnd_past h (f := f) (n := sumL ps)
  refine Eq.trans ?_ (dashTo_round h he hf ps (bnd on f (sumL ps)))
  refine (dashTo_all h ?_).symm
  rw [pre_round]; omega
theorem dashW_rounds (h : Row on) (he : on.length % 2 = 0) {f : Int} (hf : 1 ≤ f) (ps : List Ed) : ∀ m : Nat, dashW on (f + m * on.sum) ps = dashW on f ps
  | 0 => by simp
  | m + 1 => by
    have hm : 0 ≤ (m : Int) * on.sum := Int.mul_nonneg (by omega) (Int.le_of_lt h.some)
    have e : f + ((m + 1 : Nat) : Int) * on.sum = (f + m * on.sum) + on.sum := by grind
    rw [e, dashW_round h he (by omega) ps, dashW_rounds h he hf ps m]
/-- Whole rounds but one say nothing. -/
def redF (R f : Int) : Int := if R ≤ f then f % R + R else f
theorem dashW_red (h : Row on) (he : on.length % 2 = 0) (f : Int) (ps : List Ed) : dashW on (redF on.sum f) ps = dashW on f ps := by
  unfold redF
  split
  · rename_i hr
    have hs := h.some
    have h1 := Int.mul_ediv_add_emod f on.sum
    have h2 := Int.emod_nonneg f (show on.sum ≠ 0 by omega)
    have h3 : 1 ≤ f / on.sum := by rw [Int.le_ediv_iff_mul_le hs]; omega
    obtain ⟨m, hm⟩ : ∃ m : Nat, f / on.sum = m + 1 := ⟨(f / on.sum - 1).toNat, by omega⟩
    have := dashW_rounds h he (f := f % on.sum + on.sum) (by omega) ps m
    rw [← this]
    congr 1
    rw [hm] at h1
    grind
  · rfl
end
theorem redF_bd {R f : Int} (hR : 0 < R) (hf : 0 ≤ f) : 0 ≤ redF R f ∧ redF R f < 2 * R := by
  unfold redF
  have := Int.emod_nonneg f (show R ≠ 0 by omega)
  have := Int.emod_lt_of_pos f hR
  split <;> omega

theorem lensB_row {on : List Int} (h : lensB on = true) (hn : on ≠ []) : Row on ∧ on.length ≤ 11 := by
  simp only [lensB, Bool.and_eq_true, Bool.or_eq_true, decide_eq_true_eq, List.all_eq_true, List.isEmpty_iff] at h
  obtain ⟨⟨h1, h2⟩, h3⟩ := h
  exact ⟨⟨fun v hv => (h2 v hv).1, fun v hv => (h2 v hv).2, h3.resolve_right hn⟩, h1⟩

/-- The contours' pieces are straight ones on the page that lead somewhere else. -/
theorem piecesC_ok {c : Ct} (h : GoodC c) (hb : ∀ e ∈ c.es, e.bent = false) : ∀ e ∈ piecesC c, Strt e ∧ moved e = true := by
  intro e he
  unfold piecesC at he
  rw [List.mem_append, List.mem_filter] at he
  rcases he with he | he
  · exact ⟨⟨hb e he.1, h.2.1 e he.1⟩, he.2⟩
  · split at he
    · rename_i hc
      rw [List.mem_singleton] at he
      subst he
      simp only [Bool.and_eq_true] at hc
      obtain ⟨h1, h2⟩ := end_co h.2.1 h.2.2.1 h.2.2.2
      have h3 := h.2.2
      rw [co_iff, co_iff] at h3
      rw [co_iff] at h1 h2
      exact ⟨⟨rfl, edOK_mk h1 h2 (by omega) (by omega) h3.1 h3.2 (.inr ⟨rfl, rfl⟩)⟩, hc.2⟩
    · simp at he
theorem piecesC_len (c : Ct) : (piecesC c).length ≤ c.es.length + 1 := by
  unfold piecesC
  rw [List.length_append]
  have := List.length_filter_le moved c.es
  split <;> simp <;> omega

end Go.Proofs.Ytbbffeddlgfeiaa
