/- The plain side of layer 35: how long a piece is, places on a contour, which parts are drawn. -/
import Derived.Test.YtdfkbbcoolgfiaaGreatAllP
namespace Go.Proofs.YtdfkbbcoolgfiaaGreat

/-- The root of a whole number, downwards, bit by bit. -/
def flrTo (n : Int) : Nat → Int
  | 0 => 0
  | k + 1 => if (flrTo n k + 2 ^ (31 - k)) * (flrTo n k + 2 ^ (31 - k)) ≤ n then flrTo n k + 2 ^ (31 - k) else flrTo n k
def flr (n : Int) : Int := flrTo n 32

theorem two_pos (k : Nat) : (0 : Int) < 2 ^ k := Int.pow_pos (by omega)
theorem flrTo_nonneg (n : Int) : ∀ k, 0 ≤ flrTo n k
  | 0 => Int.le_refl _
  | k + 1 => by
    have h := flrTo_nonneg n k
    have := two_pos (31 - k)
    unfold flrTo
    split <;> omega
theorem flr_nonneg (n : Int) : 0 ≤ flr n := flrTo_nonneg n 32
theorem flrTo_inv (n : Int) (h0 : 0 ≤ n) (hn : n < 18446744073709551616) : ∀ k, k ≤ 32 → ∃ m : Int, flrTo n k = m * 2 ^ (32 - k) ∧ 0 ≤ m ∧ m + 1 ≤ 2 ^ k ∧ flrTo n k * flrTo n k ≤ n ∧ n < (flrTo n k + 2 ^ (32 - k)) * (flrTo n k + 2 ^ (32 - k))
  | 0, _ => ⟨0, by simp [flrTo], by omega, by simp, by simpa [flrTo] using h0, by simp [flrTo]; omega⟩
  | k + 1, hk => by
    obtain ⟨m, h1, h2, h3, h4, h5⟩ := flrTo_inv n h0 hn k (by omega)
    have e1 : 32 - k = (31 - k) + 1 := by omega
    have e2 : 32 - (k + 1) = 31 - k := by omega
    have e3 : (2 : Int) ^ (32 - k) = 2 * 2 ^ (31 - k) := by rw [e1, Int.pow_succ]; omega
    have e4 : (2 : Int) ^ (k + 1) = 2 * 2 ^ k := by rw [Int.pow_succ]; omega
    have e5 : flrTo n (k + 1) = if (flrTo n k + 2 ^ (31 - k)) * (flrTo n k + 2 ^ (31 - k)) ≤ n then flrTo n k + 2 ^ (31 - k) else flrTo n k := rfl
    rw [e5, e2, e4]
    rw [e3] at h1 h5
    generalize (2 : Int) ^ (31 - k) = t at *
    generalize flrTo n k = r at *
    by_cases hc : (r + t) * (r + t) ≤ n
    · rw [if_pos hc]
      refine ⟨2 * m + 1, by rw [h1]; grind, by omega, by omega, hc, ?_⟩
      have : r + t + t = r + 2 * t := by omega
      rw [this]; exact h5
    · rw [if_neg hc]
      exact ⟨2 * m, by rw [h1]; grind, by omega, by omega, h4, by omega⟩
theorem flr_spec {n : Int} (h0 : 0 ≤ n) (hn : n < 18446744073709551616) : 0 ≤ flr n ∧ flr n < 4294967296 ∧ flr n * flr n ≤ n ∧ n < (flr n + 1) * (flr n + 1) := by
  obtain ⟨m, h1, h2, h3, h4, h5⟩ := flrTo_inv n h0 hn 32 (Nat.le_refl _)
  simp only [Nat.sub_self, Int.pow_zero, Int.mul_one] at h1 h5
  refine ⟨flr_nonneg n, ?_, h4, h5⟩
  show flrTo n 32 < _
  rw [h1]; omega
theorem sq_le {a b : Int} (ha : 0 ≤ a) (hab : a ≤ b) : a * a ≤ b * b := Int.mul_le_mul hab hab ha (by omega)
theorem flr_eq {n r : Int} (hr : 0 ≤ r) (h1 : r * r ≤ n) (h2 : n < (r + 1) * (r + 1)) (hn : n < 18446744073709551616) : flr n = r := by
  have h0 : 0 ≤ n := Int.le_trans (Int.mul_nonneg hr hr) h1
  obtain ⟨a, _, b, c⟩ := flr_spec h0 hn
  rcases Int.lt_trichotomy (flr n) r with h | h | h
  · have := sq_le (a := flr n + 1) (b := r) (by omega) (by omega); omega
  · exact h
  · have := sq_le (a := r + 1) (b := flr n) (by omega) (by omega); omega
theorem flr_le {n b : Int} (h0 : 0 ≤ n) (hn : n < 18446744073709551616) (hb : 0 ≤ b) (h : n < (b + 1) * (b + 1)) : flr n ≤ b := by
  obtain ⟨a, _, c, _⟩ := flr_spec h0 hn
  apply Decidable.byContradiction; intro hc
  have := sq_le (a := b + 1) (b := flr n) (by omega) (by omega); omega
theorem flr_ge {n b : Int} (h0 : 0 ≤ n) (hn : n < 18446744073709551616) (h : b * b ≤ n) (_hb : 0 ≤ b) : b ≤ flr n := by
  obtain ⟨a, _, _, c⟩ := flr_spec h0 hn
  apply Decidable.byContradiction; intro hc
  have := sq_le (a := flr n + 1) (b := b) (by omega) (by omega); omega

/-- How long a straight piece is. -/
def sqE (e : Ed) : Int := (e.x1 - e.x0) * (e.x1 - e.x0) + (e.y1 - e.y0) * (e.y1 - e.y0)
def lenE (e : Ed) : Int := flr (sqE e)
/-- Does it lead somewhere else? -/
def moved (e : Ed) : Bool := !(e.x0 == e.x1) || !(e.y0 == e.y1)
/-- A straight one on the page. -/
def Strt (e : Ed) : Prop := e.bent = false ∧ edOK e = true
theorem lenE_nonneg (e : Ed) : 0 ≤ lenE e := flr_nonneg _
theorem sq_bd {a A : Int} (h : -A ≤ a ∧ a ≤ A) : 0 ≤ a * a ∧ a * a ≤ A * A := by
  rcases Int.le_total 0 a with h0 | h0
  · exact ⟨Int.mul_nonneg h0 h0, sq_le h0 h.2⟩
  · have := sq_le (a := -a) (b := A) (by omega) (by omega)
    rw [Int.neg_mul_neg] at this
    exact ⟨Int.mul_nonneg_of_nonpos_of_nonpos h0 h0, this⟩
theorem sq_pos {a : Int} (h : a ≠ 0) : 1 ≤ a * a := by
  rcases Int.lt_or_gt_of_ne h with h | h
  · have := sq_le (a := 1) (b := -a) (by omega) (by omega); rw [Int.neg_mul_neg] at this; omega
  · have := sq_le (a := 1) (b := a) (by omega) (by omega); omega
theorem sqE_bd {e : Ed} (h : edOK e = true) : 0 ≤ sqE e ∧ sqE e ≤ 536739848 ∧ (0 ≤ (e.x1 - e.x0) * (e.x1 - e.x0) ∧ (e.x1 - e.x0) * (e.x1 - e.x0) ≤ 268369924) ∧ (0 ≤ (e.y1 - e.y0) * (e.y1 - e.y0) ∧ (e.y1 - e.y0) * (e.y1 - e.y0) ≤ 268369924) := by
  obtain ⟨h0, h1, _, _, h4, h5, _⟩ := edOK_iff.1 h
  have a := sq_bd (a := e.x1 - e.x0) (A := 16382) (by omega)
  have b := sq_bd (a := e.y1 - e.y0) (A := 16382) (by omega)
  unfold sqE
  omega
theorem lenE_bd {e : Ed} (h : edOK e = true) : 0 ≤ lenE e ∧ lenE e ≤ 23167 := by
  have := sqE_bd h
  exact ⟨lenE_nonneg e, flr_le (by omega) (by omega) (by omega) (by omega)⟩
theorem lenE_pos {e : Ed} (h : edOK e = true) (hm : moved e = true) : 1 ≤ lenE e := by
  have hb := sqE_bd h
  refine flr_ge (by omega) (by omega) ?_ (by omega)
  unfold sqE at *
  simp only [moved, Bool.or_eq_true, Bool.not_eq_true', beq_eq_false_iff_ne, ne_eq] at hm
  rcases hm with hm | hm
  · have := sq_pos (a := e.x1 - e.x0) (by omega); omega
  · have := sq_pos (a := e.y1 - e.y0) (by omega); omega
theorem lenE_still {e : Ed} (h : moved e = false) : lenE e = 0 := by
  simp only [moved, Bool.or_eq_false_iff, Bool.not_eq_false', beq_iff_eq] at h
  have : sqE e = 0 := by unfold sqE; rw [h.1, h.2]; simp
  unfold lenE
  rw [this]
  exact flr_eq (by omega) (by omega) (by omega) (by omega)

/-- The piece that closes a contour. -/
def backE (c : Ct) : Ed := ⟨endX c.x c.es, endY c.y c.es, false, 0, 0, c.x, c.y⟩
/-- A contour's pieces. -/
def piecesC (c : Ct) : List Ed := c.es.filter moved ++ (if c.shut && moved (backE c) then [backE c] else [])
/-- How long they are. -/
def sumL : List Ed → Int
  | [] => 0
  | e :: l => lenE e + sumL l
theorem sumL_nonneg : ∀ l, 0 ≤ sumL l
  | [] => Int.le_refl _
  | e :: l => by have := sumL_nonneg l; have := lenE_nonneg e; simp only [sumL]; omega
theorem sumL_app (a b : List Ed) : sumL (a ++ b) = sumL a + sumL b := by
  induction a with
  | nil => simp [sumL]
  | cons e a ih => rw [List.cons_append]; simp only [sumL]; omega
theorem sumL_take (l : List Ed) (k : Nat) (h : k < l.length) : sumL (l.take (k + 1)) = sumL (l.take k) + lenE l[k] := by
  rw [List.take_succ_eq_append_getElem h, sumL_app]; simp [sumL]
theorem sumL_take_le (l : List Ed) (k : Nat) : sumL (l.take k) ≤ sumL l := by
  have := sumL_app (l.take k) (l.drop k)
  rw [List.take_append_drop] at this
  have := sumL_nonneg (l.drop k); omega
theorem sumL_bd : ∀ {l : List Ed} (_ : ∀ e ∈ l, edOK e = true), sumL l ≤ 23167 * l.length
  | [], _ => by simp [sumL]
  | e :: l, h => by
    have := sumL_bd (l := l) (fun d hd => h d (by simp [hd]))
    have := lenE_bd (h e (by simp))
    simp only [sumL, List.length_cons]; omega
/-- Where each one ends. -/
def endsL (l : List Ed) : List Int := (List.range l.length).map fun i => sumL (l.take (i + 1))
theorem endsL_len (l : List Ed) : (endsL l).length = l.length := by simp [endsL]
theorem endsL_get (l : List Ed) (i : Nat) (h : i < (endsL l).length) : (endsL l)[i] = sumL (l.take (i + 1)) := by simp [endsL]
theorem endsL_snoc (l : List Ed) (e : Ed) : endsL (l ++ [e]) = endsL l ++ [sumL l + lenE e] := by
  apply List.ext_getElem
  · simp [endsL_len]
  · intro i h1 h2
    rw [endsL_get]
    rw [endsL_len, List.length_append, List.length_singleton] at h1
    by_cases hi : i < l.length
    · rw [List.getElem_append_left (by rw [endsL_len]; exact hi), endsL_get, List.take_append_of_le_length (by omega)]
    · have : i = l.length := by omega
      subst this
      rw [List.getElem_append_right (by rw [endsL_len]; omega)]
      rw [List.take_of_length_le (by simp), sumL_app]
      simp [sumL]
theorem endsL_last (l : List Ed) (h : l.length - 1 < (endsL l).length) : (endsL l)[l.length - 1] = sumL l := by
  rw [endsL_get, List.take_of_length_le (by omega)]

/-- A place on a piece. -/
def atE (e : Ed) (k : Int) : Int × Int := (rnd (e.x0 * lenE e + (e.x1 - e.x0) * k) (lenE e), rnd (e.y0 * lenE e + (e.y1 - e.y0) * k) (lenE e))
/-- A place on pieces. -/
def atW : List Ed → Int → Int × Int
  | [], _ => (0, 0)
  | e :: l, s => if s ≤ lenE e then atE e s else atW l (s - lenE e)
theorem atW_at : ∀ (l : List Ed) (i : Nat) (s : Int) (h : i < l.length), (0 < i → sumL (l.take i) < s) → s ≤ sumL (l.take (i + 1)) → atW l s = atE l[i] (s - sumL (l.take i))
  | [], _, _, h, _, _ => by simp at h
  | e :: l, 0, s, _, _, h2 => by
    simp [sumL] at h2
    simp [atW, sumL, h2]
  | e :: l, i + 1, s, h, h1, h2 => by
    have h1' := h1 (by omega)
    simp only [List.take_succ_cons, sumL] at h1' h2
    have := sumL_nonneg (l.take i)
    have hn : ¬ s ≤ lenE e := by omega
    have ih := atW_at l i (s - lenE e) (by simpa using h) (fun _ => by omega) (by omega)
    simp only [atW, if_neg hn, List.take_succ_cons, sumL, List.getElem_cons_succ]
    rw [ih]
    congr 1; omega
/-- A piece's end, where it lies between two places. -/
def innE (t : Int) (e : Ed) (a b : Int) : List Sg := if a < t ∧ t < b then [⟨2, e.x1, e.y1, 0, 0⟩] else []
/-- The ends between two places. -/
def innF (t : Int) : List Ed → Int → Int → List Sg
  | [], _, _ => []
  | e :: l, a, b => innE (t + lenE e) e a b ++ innF (t + lenE e) l a b
def innW (l : List Ed) (a b : Int) : List Sg := innF 0 l a b
theorem innF_snoc : ∀ (l : List Ed) (t : Int) (e : Ed) (a b : Int), innF t (l ++ [e]) a b = innF t l a b ++ innE (t + sumL l + lenE e) e a b
  | [], t, e, a, b => by simp [innF, sumL]
  | d :: l, t, e, a, b => by
    have h : t + sumL (d :: l) + lenE e = t + lenE d + sumL l + lenE e := by simp only [sumL]; omega
    rw [h, List.cons_append]
    simp only [innF]
    rw [innF_snoc l, List.append_assoc]
theorem innW_take (l : List Ed) (k : Nat) (h : k < l.length) (a b : Int) : innW (l.take (k + 1)) a b = innW (l.take k) a b ++ innE (sumL (l.take (k + 1))) l[k] a b := by
  unfold innW
  rw [sumL_take l k h, List.take_succ_eq_append_getElem h, innF_snoc, Int.zero_add]
theorem innE_len (t : Int) (e : Ed) (a b : Int) : (innE t e a b).length ≤ 1 := by unfold innE; split <;> simp
theorem innF_len : ∀ (l : List Ed) (t a b : Int), (innF t l a b).length ≤ l.length
  | [], _, _, _ => by simp [innF]
  | e :: l, t, a, b => by
    have := innF_len l (t + lenE e) a b
    have := innE_len (t + lenE e) e a b
    simp only [innF, List.length_append, List.length_cons]
    omega
/-- The part from a place to a place. -/
def partW (l : List Ed) (a b : Int) : List Sg := ⟨1, (atW l a).1, (atW l a).2, 0, 0⟩ :: (innW l a b ++ [⟨2, (atW l b).1, (atW l b).2, 0, 0⟩])
theorem partW_len (l : List Ed) (a b : Int) : (partW l a b).length ≤ l.length + 2 := by
  have := innF_len l 0 a b
  simp only [partW, innW, List.length_cons, List.length_append, List.length_nil]; omega

/-- So many lengths of the row, round and round. -/
def pre (on : List Int) : Nat → Int
  | 0 => 0
  | k + 1 => pre on k + on.getD (k % on.length) 0
/-- What the k-th length draws. -/
def dashAt (on : List Int) (f : Int) (ps : List Ed) (j : Nat) : List Sg :=
  if j % 2 = 0 ∧ 0 < sumL ps ∧ pre on j - f < sumL ps ∧ (0 < pre on (j + 1) - f ∨ (pre on (j + 1) - f = 0 ∧ pre on j - f = 0)) then partW ps (max (pre on j - f) 0) (min (pre on (j + 1) - f) (sumL ps)) else []
def dashTo (on : List Int) (f : Int) (ps : List Ed) (k : Nat) : List Sg := (List.range k).flatMap (dashAt on f ps)
/-- So many are enough. -/
def bnd (on : List Int) (f n : Int) : Nat := ((n + f).toNat + 1) * on.length
def dashW (on : List Int) (f : Int) (ps : List Ed) : List Sg := dashTo on f ps (bnd on f (sumL ps))
/-- What is drawn of a contour; of a path. -/
def dashC (on : List Int) (f : Int) (c : Ct) : List Sg := dashW on f (piecesC c)
def dashL (on : List Int) (f : Int) (l : List Sg) : List Sg := (ctsL l).flatMap (dashC on f)
def cutL (on : List Int) (f : Int) (l : List Sg) : List Sg × Int := if on = [] then (l, 0) else if 300 < (dashL on f l).length then ([], 5) else (dashL on f l, 0)
/-- May lengths be? -/
def lensB (on : List Int) : Bool := decide (on.length ≤ 11) && on.all (fun v => decide (0 ≤ v) && decide (v ≤ 32767)) && (decide (0 < on.sum) || on.isEmpty)
/-- Lengths: some, none below 0, not all 0. -/
structure Row (on : List Int) : Prop where
  nonneg : ∀ v ∈ on, 0 ≤ v
  most : ∀ v ∈ on, v ≤ 32767
  some : 0 < on.sum

section
variable {on : List Int}
theorem Row.ne (h : Row on) : on ≠ [] := by rintro rfl; have := h.some; simp at this
theorem Row.len (h : Row on) : 0 < on.length := by have := h.ne; cases on with | nil => exact absurd rfl this | cons a l => simp
theorem Row.get (h : Row on) (k : Nat) : 0 ≤ on.getD (k % on.length) 0 ∧ on.getD (k % on.length) 0 ≤ 32767 := by
  have hl : k % on.length < on.length := Nat.mod_lt _ h.len
  rw [List.getD_eq_getElem?_getD, List.getElem?_eq_getElem hl]
  exact ⟨h.nonneg _ (List.getElem_mem hl), h.most _ (List.getElem_mem hl)⟩
theorem Row.step (h : Row on) (k : Nat) : pre on k ≤ pre on (k + 1) ∧ pre on (k + 1) ≤ pre on k + 32767 := by
  have := h.get k; simp only [pre]; omega
theorem Row.mono (h : Row on) {j k : Nat} (hjk : j ≤ k) : pre on j ≤ pre on k := by
  induction k with
  | zero => have : j = 0 := by omega
            subst this; exact Int.le_refl _
  | succ k ih =>
    rcases Nat.lt_or_ge k j with h1 | h1
    · have : j = k + 1 := by omega
      subst this; exact Int.le_refl _
    · have := ih h1; have := (h.step k).1; omega
theorem Row.nonnegP (h : Row on) (k : Nat) : 0 ≤ pre on k := h.mono (j := 0) (Nat.zero_le _)
theorem pre_le_sum (on : List Int) : ∀ k, k ≤ on.length → pre on k = (on.take k).sum
  | 0, _ => by simp [pre]
  | k + 1, hk => by
    have hl : k < on.length := hk
    have := pre_le_sum on k (by omega)
    rw [List.take_succ_eq_append_getElem hl, List.sum_append, ← this]
    simp only [pre, Nat.mod_eq_of_lt hl]
    rw [List.getD_eq_getElem?_getD, List.getElem?_eq_getElem hl]
    simp
theorem pre_len (on : List Int) : pre on on.length = on.sum := by rw [pre_le_sum on _ (Nat.le_refl _), List.take_length]
theorem pre_round (on : List Int) : ∀ k, pre on (on.length + k) = on.sum + pre on k
  | 0 => by rw [Nat.add_zero, pre_len]; simp [pre]
  | k + 1 => by
    have := pre_round on k
    rw [← Nat.add_assoc]
    simp only [pre, Nat.add_mod_left]
    omega
theorem pre_rounds (on : List Int) (m : Nat) : pre on (m * on.length) = m * on.sum := by
  induction m with
  | zero => simp [pre]
  | succ m ih => rw [Nat.succ_mul, Nat.add_comm, pre_round, ih]; grind
/-- A row twice is the row. -/
theorem pre_dbl (on : List Int) : ∀ k, pre (on ++ on) k = pre on k
  | 0 => rfl
  | k + 1 => by
    rcases Nat.eq_zero_or_pos on.length with h0 | h0
    · have : on = [] := List.eq_nil_of_length_eq_zero h0
      subst this; rfl
    · simp only [pre]
      rw [pre_dbl on k]
      congr 1
      have hb : k % on.length < on.length := Nat.mod_lt _ h0
      have h1 : k % (on ++ on).length < (on ++ on).length := Nat.mod_lt _ (by rw [List.length_append]; omega)
      have h2 : k % (on ++ on).length % on.length = k % on.length := by rw [List.length_append, ← Nat.two_mul]; exact Nat.mod_mul_left_mod _ _ _
      rw [List.getD_eq_getElem?_getD, List.getD_eq_getElem?_getD, List.getElem?_append]
      rw [List.length_append] at h1 h2
      rw [List.length_append]
      split
      · rename_i h
        rw [Nat.mod_eq_of_lt h] at h2; rw [h2]
      · rename_i h
        rw [Nat.mod_eq_sub_mod (by omega), Nat.mod_eq_of_lt (by omega)] at h2; rw [h2]
theorem Row.dbl (h : Row on) : Row (on ++ on) := ⟨fun v hv => h.nonneg v (by simpa using hv), fun v hv => h.most v (by simpa using hv), by rw [List.sum_append]; have := h.some; omega⟩
theorem dashAt_dbl (on : List Int) : dashAt (on ++ on) = dashAt on := by funext f ps j; simp only [dashAt, pre_dbl]
theorem dashTo_dbl (on : List Int) : dashTo (on ++ on) = dashTo on := by funext f ps j; simp only [dashTo, dashAt_dbl]

theorem dashTo_succ (on : List Int) (f : Int) (ps : List Ed) (k : Nat) : dashTo on f ps (k + 1) = dashTo on f ps k ++ dashAt on f ps k := by
  simp [dashTo, List.range_succ]
theorem dashAt_past (h : Row on) {f : Int} {ps : List Ed} {k j : Nat} (hk : sumL ps ≤ pre on k - f) (hj : k ≤ j) : dashAt on f ps j = [] := by
  have := h.mono hj
  unfold dashAt
  rw [if_neg (by omega)]
theorem dashTo_past (h : Row on) {f : Int} {ps : List Ed} {k : Nat} (hk : sumL ps ≤ pre on k - f) : ∀ d, dashTo on f ps (k + d) = dashTo on f ps k
  | 0 => rfl
  | d + 1 => by rw [← Nat.add_assoc, dashTo_succ, dashAt_past h hk (by omega), List.append_nil, dashTo_past h hk d]
theorem dashTo_same (h : Row on) {f : Int} {ps : List Ed} {k k' : Nat} (hk : sumL ps ≤ pre on k - f) (hk' : sumL ps ≤ pre on k' - f) : dashTo on f ps k = dashTo on f ps k' := by
  rcases Nat.le_total k k' with hl | hl
  · have := dashTo_past h hk (k' - k); rw [show k + (k' - k) = k' by omega] at this; exact this.symm
  · have := dashTo_past h hk' (k - k'); rw [show k' + (k - k') = k by omega] at this; exact this
theorem bnd_past (h : Row on) {f n : Int} : n ≤ pre on (bnd on f n) - f := by
  unfold bnd
  rw [pre_rounds]
  have h1 := h.some
  have h2 : ((((n + f).toNat + 1 : Nat) : Int)) * 1 ≤ (((n + f).toNat + 1 : Nat) : Int) * on.sum := Int.mul_le_mul_of_nonneg_left (by omega) (by omega)
  omega
theorem lt_bnd (h : Row on) {f n : Int} {k : Nat} (hk : pre on k - f < n) : k < bnd on f n := by
  apply Decidable.byContradiction; intro hc
  have := h.mono (show bnd on f n ≤ k by omega)
  have := bnd_past h (f := f) (n := n); omega
theorem dashTo_all (h : Row on) {f : Int} {ps : List Ed} {k : Nat} (hk : sumL ps ≤ pre on k - f) : dashTo on f ps k = dashW on f ps := dashTo_same h hk (bnd_past h)
theorem dashW_dbl (h : Row on) (f : Int) (ps : List Ed) : dashW (on ++ on) f ps = dashW on f ps := by
  unfold dashW
  rw [dashTo_dbl]
  refine dashTo_same h ?_ (bnd_past h)
  have := bnd_past h.dbl (f := f) (n := sumL ps)
  rwa [pre_dbl] at this
theorem dashW_none {ps : List Ed} (h : sumL ps = 0) (on : List Int) (f : Int) : dashW on f ps = [] := by
  unfold dashW dashTo
  rw [List.flatMap_eq_nil_iff]
  intro j _
  unfold dashAt
  rw [if_neg (by omega)]
theorem dashTo_len (on : List Int) (f : Int) (ps : List Ed) {k k' : Nat} (h : k ≤ k') : (dashTo on f ps k).length ≤ (dashTo on f ps k').length := by
  induction k' with
  | zero => have : k = 0 := by omega
            subst this; exact Nat.le_refl _
  | succ k' ih =>
    rcases Nat.lt_or_ge k' k with h1 | h1
    · have : k = k' + 1 := by omega
      subst this; exact Nat.le_refl _
    · have := ih h1; rw [dashTo_succ, List.length_append]; omega
theorem dashTo_le (h : Row on) (f : Int) (ps : List Ed) (k : Nat) : (dashTo on f ps k).length ≤ (dashW on f ps).length := by
  rcases Nat.le_total k (bnd on f (sumL ps)) with hl | hl
  · exact dashTo_len on f ps hl
  · have := dashTo_past h (bnd_past h (f := f) (n := sumL ps)) (k - bnd on f (sumL ps))
    rw [show bnd on f (sumL ps) + (k - bnd on f (sumL ps)) = k by omega] at this
    rw [this]; exact Nat.le_refl _
/-- A round more that is passed by says nothing. -/
theorem dashTo_round (h : Row on) (he : on.length % 2 = 0) {f : Int} (hf : 1 ≤ f) (ps : List Ed) : ∀ k, dashTo on (f + on.sum) ps (on.length + k) = dashTo on f ps k
  | 0 => by
    rw [Nat.add_zero]
    have hz : dashTo on f ps 0 = [] := rfl
    rw [hz]
    unfold dashTo
    rw [List.flatMap_eq_nil_iff]
    intro j hj
    rw [List.mem_range] at hj
    have h1 := h.mono (show j + 1 ≤ on.length by omega)
    rw [pre_len] at h1
    unfold dashAt
    rw [if_neg (by omega)]
  | k + 1 => by
    rw [← Nat.add_assoc, dashTo_succ, dashTo_succ, dashTo_round h he hf ps k]
    congr 1
    have e1 := pre_round on k
    have e2 : pre on (on.length + k + 1) = on.sum + pre on (k + 1) := pre_round on (k + 1)
    unfold dashAt
    rw [e1, e2]
    have p : (on.length + k) % 2 = k % 2 := by omega
    have a1 : on.sum + pre on k - (f + on.sum) = pre on k - f := by omega
    have a2 : on.sum + pre on (k + 1) - (f + on.sum) = pre on (k + 1) - f := by omega
    rw [p, a1, a2]
theorem dashW_round (h : Row on) (he : on.length % 2 = 0) {f : Int} (hf : 1 ≤ f) (ps : List Ed) : dashW on (f + on.sum) ps = dashW on f ps := by
  have h1 := bnd_past h (f := f) (n := sumL ps)
  refine Eq.trans ?_ (dashTo_round h he hf ps (bnd on f (sumL ps)))
  refine (dashTo_all h ?_).symm
  rw [pre_round]; omega
theorem dashW_rounds (h : Row on) (he : on.length % 2 = 0) {f : Int} (hf : 1 ≤ f) (ps : List Ed) : ∀ m : Nat, dashW on (f + m * on.sum) ps = dashW on f ps
  | 0 => by simp
  | m + 1 => by
    have hm : 0 ≤ (m : Int) * on.sum := Int.mul_nonneg (by omega) (Int.le_of_lt h.some)
    have e : f + ((m + 1 : Nat) : Int) * on.sum = (f + m * on.sum) + on.sum := by grind
    rw [e, dashW_round h he (by omega) ps, dashW_rounds h he hf ps m]
/-- Whole rounds but one say nothing. -/
def redF (R f : Int) : Int := if R ≤ f then f % R + R else f
theorem dashW_red (h : Row on) (he : on.length % 2 = 0) (f : Int) (ps : List Ed) : dashW on (redF on.sum f) ps = dashW on f ps := by
  unfold redF
  split
  · rename_i hr
    have hs := h.some
    have h1 := Int.mul_ediv_add_emod f on.sum
    have h2 := Int.emod_nonneg f (show on.sum ≠ 0 by omega)
    have h3 : 1 ≤ f / on.sum := by rw [Int.le_ediv_iff_mul_le hs]; omega
    obtain ⟨m, hm⟩ : ∃ m : Nat, f / on.sum = m + 1 := ⟨(f / on.sum - 1).toNat, by omega⟩
    have := dashW_rounds h he (f := f % on.sum + on.sum) (by omega) ps m
    rw [← this]
    congr 1
    rw [hm] at h1
    grind
  · rfl
end
theorem redF_bd {R f : Int} (hR : 0 < R) (hf : 0 ≤ f) : 0 ≤ redF R f ∧ redF R f < 2 * R := by
  unfold redF
  have := Int.emod_nonneg f (show R ≠ 0 by omega)
  have := Int.emod_lt_of_pos f hR
  split <;> omega

theorem lensB_row {on : List Int} (h : lensB on = true) (hn : on ≠ []) : Row on ∧ on.length ≤ 11 := by
  simp only [lensB, Bool.and_eq_true, Bool.or_eq_true, decide_eq_true_eq, List.all_eq_true, List.isEmpty_iff] at h
  obtain ⟨⟨h1, h2⟩, h3⟩ := h
  exact ⟨⟨fun v hv => (h2 v hv).1, fun v hv => (h2 v hv).2, h3.resolve_right hn⟩, h1⟩

/-- The contours' pieces are straight ones on the page that lead somewhere else. -/
theorem piecesC_ok {c : Ct} (h : GoodC c) (hb : ∀ e ∈ c.es, e.bent = false) : ∀ e ∈ piecesC c, Strt e ∧ moved e = true := by
  intro e he
  unfold piecesC at he
  rw [List.mem_append, List.mem_filter] at he
  rcases he with he | he
  · exact ⟨⟨hb e he.1, h.2.1 e he.1⟩, he.2⟩
  · split at he
    · rename_i hc
      rw [List.mem_singleton] at he
      subst he
      simp only [Bool.and_eq_true] at hc
      obtain ⟨h1, h2⟩ := end_co h.2.1 h.2.2.1 h.2.2.2
      have h3 := h.2.2
      rw [co_iff, co_iff] at h3
      rw [co_iff] at h1 h2
      exact ⟨⟨rfl, edOK_mk h1 h2 (by omega) (by omega) h3.1 h3.2 (.inr ⟨rfl, rfl⟩)⟩, hc.2⟩
    · simp at he
theorem piecesC_len (c : Ct) : (piecesC c).length ≤ c.es.length + 1 := by
  unfold piecesC
  rw [List.length_append]
  have := List.length_filter_le moved c.es
  split <;> simp <;> omega

end Go.Proofs.YtdfkbbcoolgfiaaGreat

namespace Go.Proofs.YtdfkbbcoolgfiaaGreat

/-- An odd row twice. -/
def evenR (on : List Int) : List Int := if on.length % 2 = 1 then on ++ on else on
theorem evenR_row {on : List Int} (h : Row on) : Row (evenR on) := by unfold evenR; split; exact h.dbl; exact h
theorem evenR_even (on : List Int) : (evenR on).length % 2 = 0 := by
  unfold evenR; split
  · rw [List.length_append]; omega
  · omega
theorem evenR_len (on : List Int) : (evenR on).length ≤ 2 * on.length := by
  unfold evenR; split
  · rw [List.length_append]; omega
  · omega
theorem evenR_dash {on : List Int} (h : Row on) (f : Int) (ps : List Ed) : dashW (evenR on) f ps = dashW on f ps := by
  unfold evenR; split
  · exact dashW_dbl h f ps
  · rfl
theorem evenR_red {on : List Int} (h : Row on) (f : Int) (ps : List Ed) : dashW (evenR on) (redF (evenR on).sum f) ps = dashW on f ps := by
  rw [dashW_red (evenR_row h) (evenR_even on), evenR_dash h]
theorem row_sum {on : List Int} (h : Row on) : on.sum ≤ 32767 * on.length := by
  have : ∀ l : List Int, (∀ v ∈ l, v ≤ 32767) → l.sum ≤ 32767 * l.length := by
    intro l
    induction l with
    | nil => simp
    | cons a l ih => intro h; have := ih (fun v hv => h v (by simp [hv])); have := h a (by simp); rw [List.sum_cons, List.length_cons]; omega
  exact this on h.most
theorem flat_take {α β : Type} (F : α → List β) (l : List α) (k : Nat) (h : k < l.length) : (l.take (k + 1)).flatMap F = (l.take k).flatMap F ++ F l[k] := by
  rw [List.take_succ_eq_append_getElem h, List.flatMap_append]; simp
theorem flat_le {α β : Type} (F : α → List β) (l : List α) (k : Nat) (h : k < l.length) : ((l.take k).flatMap F).length + (F l[k]).length ≤ (l.flatMap F).length := by
  have h1 := flat_take F l k h
  have h2 : l.flatMap F = (l.take (k + 1)).flatMap F ++ (l.drop (k + 1)).flatMap F := by rw [← List.flatMap_append, List.take_append_drop]
  rw [h2, h1, List.length_append, List.length_append]; omega
theorem cutL_over {on : List Int} {f : Int} {l : List Sg} {k j : Nat} {c : Ct} (hne : on ≠ []) (hr : Row on) (hc : (ctsL l)[k]? = some c)
    (h : 300 < (((ctsL l).take k).flatMap (dashC on f) ++ dashTo (evenR on) (redF (evenR on).sum f) (piecesC c) j).length) : cutL on f l = ([], 5) := by
  obtain ⟨hk, hc⟩ := List.getElem?_eq_some_iff.1 hc
  have h1 := dashTo_le (evenR_row hr) (redF (evenR on).sum f) (piecesC c) j
  rw [evenR_red hr] at h1
  have h2 := flat_le (dashC on f) (ctsL l) k hk
  rw [hc] at h2
  have h3 : dashC on f c = dashW on f (piecesC c) := rfl
  rw [h3] at h2
  rw [List.length_append] at h
  unfold cutL
  rw [if_neg hne, if_pos]
  unfold dashL; omega
theorem cutL_all {on : List Int} {f : Int} {l : List Sg} (hne : on ≠ []) (h : (dashL on f l).length ≤ 300) : cutL on f l = (dashL on f l, 0) := by
  unfold cutL; rw [if_neg hne, if_neg (by omega)]
theorem cutL_nil (f : Int) (l : List Sg) : cutL [] f l = (l, 0) := rfl
theorem dashAt_len (on : List Int) (f : Int) (ps : List Ed) (j : Nat) : (dashAt on f ps j).length ≤ ps.length + 2 := by
  unfold dashAt; split
  · exact partW_len _ _ _
  · simp
/-- A path without bows has straight edges alone. -/
theorem cts_straight : ∀ (l : List Sg) (st : List Ct × Int × Int), (∀ s ∈ l, s.kind ≠ 3) → (∀ c ∈ st.1, ∀ e ∈ c.es, e.bent = false) → ∀ c ∈ (l.foldl ctStep st).1, ∀ e ∈ c.es, e.bent = false
  | [], _, _, h => h
  | s :: l, st, hk, h => by
    rw [List.foldl_cons]
    refine cts_straight l _ (fun t ht => hk t (by simp [ht])) ?_
    intro c hc
    unfold ctStep at hc
    split at hc
    · rw [List.mem_append, List.mem_singleton] at hc
      rcases hc with hc | rfl
      · exact h c hc
      · intro e he; simp at he
    · split at hc
      · rcases mem_modLast _ _ _ hc with hc | ⟨d, hd, rfl⟩
        · exact h c hc
        · exact h d hd
      · rcases mem_modLast _ _ _ hc with hc | ⟨d, hd, rfl⟩
        · exact h c hc
        · intro e he
          simp only [List.mem_append, List.mem_singleton] at he
          rcases he with he | rfl
          · exact h d hd e he
          · simpa using hk s (by simp)
theorem ctsL_straight {l : List Sg} (h : ∀ s ∈ l, s.kind ≠ 3) : ∀ c ∈ ctsL l, ∀ e ∈ c.es, e.bent = false := by
  unfold ctsL; split
  · intro c hc; simp at hc
  · exact cts_straight l _ h (fun c hc => by simp at hc)

end Go.Proofs.YtdfkbbcoolgfiaaGreat

namespace Go.Proofs.YtdfkbbcoolgfiaaGreat

theorem chain_at2 : ∀ (es : List Ed) (x y : Int) (j : Nat) (h : j < es.length), chain x y es → es[j].x0 = endX x (es.take j) ∧ es[j].y0 = endY y (es.take j)
  | e :: es, x, y, 0, _, h => by
    obtain ⟨hx, hy, _⟩ : e.x0 = x ∧ e.y0 = y ∧ chain e.x1 e.y1 es := h
    exact ⟨hx, hy⟩
  | e :: es, x, y, j + 1, hj, h => by
    obtain ⟨_, _, hc⟩ : e.x0 = x ∧ e.y0 = y ∧ chain e.x1 e.y1 es := h
    have := chain_at2 es e.x1 e.y1 j (by simpa using hj) hc
    simpa [endX_cons, endY_cons] using this
end Go.Proofs.YtdfkbbcoolgfiaaGreat

namespace Go.Proofs.YtdfkbbcoolgfiaaGreat

def levelL (n : Int) : List Sg := [⟨1, 0, 0, 0, 0⟩, ⟨2, n, 0, 0, 0⟩]
def levelE (n : Int) : Ed := ⟨0, 0, false, 0, 0, n, 0⟩
/-- The part from a to b of a level piece. -/
def lvlP (a b : Int) : List Sg := [⟨1, a, 0, 0, 0⟩, ⟨2, b, 0, 0, 0⟩]
def lvlAt (on : List Int) (f n : Int) (j : Nat) : List Sg :=
  if j % 2 = 0 ∧ pre on j - f < n ∧ (0 < pre on (j + 1) - f ∨ (pre on (j + 1) - f = 0 ∧ pre on j - f = 0)) then lvlP (max (pre on j - f) 0) (min (pre on (j + 1) - f) n) else []
def lvlTo (on : List Int) (f n : Int) (k : Nat) : List Sg := (List.range k).flatMap (lvlAt on f n)
def lvl (on : List Int) (f n : Int) : List Sg := lvlTo on f n (bnd on f n)

section
variable {n : Int}
theorem level_may (h0 : 0 ≤ n) (h1 : n ≤ 8191) : mayB (levelL n) = true := by
  have hc : co n = true := by simp [co]; omega
  simp [mayB, levelL, mayFrom, rightB, nearB, hc, show co 0 = true by decide]
theorem level_cts (h0 : 0 ≤ n) (h1 : n ≤ 8191) : ctsL (levelL n) = [⟨0, 0, [levelE n], false⟩] := by
  rw [ctsL_may (level_may h0 h1)]; rfl
theorem level_len (h0 : 0 ≤ n) (h1 : n ≤ 8191) : lenE (levelE n) = n := by
  unfold lenE sqE levelE
  simp only [Int.sub_zero]
  have h3 := sq_le (a := n) (b := 8191) h0 h1
  have e : (n + 1) * (n + 1) = n * n + 2 * n + 1 := by grind
  exact flr_eq h0 (by omega) (by omega) (by omega)
theorem level_ok (h0 : 0 ≤ n) (h1 : n ≤ 8191) : edOK (levelE n) = true := edOK_mk (by omega) (by omega) (by omega) (by omega) (by omega) (by omega) (.inr ⟨rfl, rfl⟩)
theorem level_moved (h0 : 1 ≤ n) : moved (levelE n) = true := by
  unfold moved levelE; simp; omega
theorem level_pieces (h0 : 1 ≤ n) : piecesC ⟨0, 0, [levelE n], false⟩ = [levelE n] := by
  unfold piecesC; simp [level_moved h0]
theorem level_sum (h0 : 0 ≤ n) (h1 : n ≤ 8191) : sumL [levelE n] = n := by simp only [sumL, level_len h0 h1]; omega
theorem level_at (h0 : 1 ≤ n) (h1 : n ≤ 8191) {k : Int} (hk1 : k ≤ n) : atW [levelE n] k = (k, 0) := by
  have hl := level_len (n := n) (by omega) h1
  unfold atW
  rw [hl, if_pos hk1]
  unfold atE
  rw [hl]
  have e1 : (levelE n).x0 * n + ((levelE n).x1 - (levelE n).x0) * k = k * n := by simp only [levelE]; grind
  have e2 : (levelE n).y0 * n + ((levelE n).y1 - (levelE n).y0) * k = 0 * n := by simp only [levelE]; grind
  rw [e1, e2, rnd_exact _ _ (by omega), rnd_exact _ _ (by omega)]
theorem level_part (h0 : 1 ≤ n) (h1 : n ≤ 8191) {a b : Int} (ha : a ≤ n) (hb : b ≤ n) : partW [levelE n] a b = lvlP a b := by
  unfold partW
  rw [level_at h0 h1 ha, level_at h0 h1 hb]
  have : innW [levelE n] a b = [] := by
    unfold innW innF innF innE
    rw [level_len (by omega) h1, if_neg (by omega)]; rfl
  rw [this]; rfl
theorem level_dashAt (h0 : 1 ≤ n) (h1 : n ≤ 8191) (on : List Int) (f : Int) (j : Nat) : dashAt on f [levelE n] j = lvlAt on f n j := by
  unfold dashAt lvlAt
  rw [level_sum (by omega) h1]
  by_cases h : j % 2 = 0 ∧ pre on j - f < n ∧ (0 < pre on (j + 1) - f ∨ (pre on (j + 1) - f = 0 ∧ pre on j - f = 0))
  · rw [if_pos h, if_pos ⟨h.1, by omega, h.2⟩, level_part h0 h1 (by omega) (by omega)]
  · rw [if_neg h, if_neg (fun hh => h ⟨hh.1, hh.2.2⟩)]
theorem dashL_level (h0 : 1 ≤ n) (h1 : n ≤ 8191) (on : List Int) (f : Int) : dashL on f (levelL n) = lvl on f n := by
  unfold dashL
  rw [level_cts (by omega) h1]
  simp only [List.flatMap_cons, List.flatMap_nil, List.append_nil]
  unfold dashC dashW dashTo lvl lvlTo
  rw [level_pieces h0, level_sum (by omega) h1]
  congr 1
  funext j
  exact level_dashAt h0 h1 on f j
theorem cutL_level (h0 : 1 ≤ n) (h1 : n ≤ 8191) {on : List Int} (hne : on ≠ []) (f : Int) : cutL on f (levelL n) = if 300 < (lvl on f n).length then ([], 5) else (lvl on f n, 0) := by
  unfold cutL; rw [if_neg hne, dashL_level h0 h1]
end

theorem known_1 : cutL [4, 2] 0 (levelL 10) = ([⟨1, 0, 0, 0, 0⟩, ⟨2, 4, 0, 0, 0⟩, ⟨1, 6, 0, 0, 0⟩, ⟨2, 10, 0, 0, 0⟩], 0) := by
  rw [cutL_level (by omega) (by omega) (by simp)]; decide +kernel
theorem known_2 : cutL [4, 2] 4 (levelL 10) = ([⟨1, 2, 0, 0, 0⟩, ⟨2, 6, 0, 0, 0⟩, ⟨1, 8, 0, 0, 0⟩, ⟨2, 10, 0, 0, 0⟩], 0) := by
  rw [cutL_level (by omega) (by omega) (by simp)]; decide +kernel
theorem known_3 : cutL [0, 3] 0 (levelL 5) = ([⟨1, 0, 0, 0, 0⟩, ⟨2, 0, 0, 0, 0⟩, ⟨1, 3, 0, 0, 0⟩, ⟨2, 3, 0, 0, 0⟩], 0) := by
  rw [cutL_level (by omega) (by omega) (by simp)]; decide +kernel

end Go.Proofs.YtdfkbbcoolgfiaaGreat

namespace Go.Proofs.YtdfkbbcoolgfiaaGreat

section
variable {u v n : Int}
def squareL (u v n : Int) : List Sg := [⟨1, u, v, 0, 0⟩, ⟨2, u + n, v, 0, 0⟩, ⟨2, u + n, v + n, 0, 0⟩, ⟨2, u, v + n, 0, 0⟩, ⟨4, 0, 0, 0, 0⟩]
def sqE1 (u v n : Int) : Ed := ⟨u, v, false, 0, 0, u + n, v⟩
def sqE2 (u v n : Int) : Ed := ⟨u + n, v, false, 0, 0, u + n, v + n⟩
def sqE3 (u v n : Int) : Ed := ⟨u + n, v + n, false, 0, 0, u, v + n⟩
def sqE4 (u v n : Int) : Ed := ⟨u, v + n, false, 0, 0, u, v⟩
def sqPs (u v n : Int) : List Ed := [sqE1 u v n, sqE2 u v n, sqE3 u v n, sqE4 u v n]
def sqW (u v n : Int) (k : Nat) : List Sg :=
  if k % 2 = 1 then [⟨1, u + n, v, 0, 0⟩, ⟨2, u + n, v + n, 0, 0⟩, ⟨1, u, v + n, 0, 0⟩, ⟨2, u, v, 0, 0⟩] else [⟨1, u, v, 0, 0⟩, ⟨2, u + n, v, 0, 0⟩, ⟨1, u + n, v + n, 0, 0⟩, ⟨2, u, v + n, 0, 0⟩]

theorem sq_len {e : Ed} (h : sqE e = n * n) (h0 : 0 ≤ n) (h1 : n ≤ 8191) : lenE e = n := by
  unfold lenE
  rw [h]
  have h3 := sq_le (a := n) (b := 8191) h0 h1
  have e : (n + 1) * (n + 1) = n * n + 2 * n + 1 := by grind
  exact flr_eq h0 (by omega) (by omega) (by omega)
theorem sq_lens (h0 : 1 ≤ n) (h1 : n ≤ 8191) : lenE (sqE1 u v n) = n ∧ lenE (sqE2 u v n) = n ∧ lenE (sqE3 u v n) = n ∧ lenE (sqE4 u v n) = n :=
  ⟨sq_len (by simp only [sqE, sqE1]; grind) (by omega) h1, sq_len (by simp only [sqE, sqE2]; grind) (by omega) h1, sq_len (by simp only [sqE, sqE3]; grind) (by omega) h1, sq_len (by simp only [sqE, sqE4]; grind) (by omega) h1⟩
theorem sq_may (hu : -400 ≤ u ∧ u ≤ 400) (hv : -400 ≤ v ∧ v ≤ 400) (hn : 1 ≤ n ∧ n ≤ 500) : mayB (squareL u v n) = true := by
  have a : co u = true := by simp [co]; omega
  have b : co v = true := by simp [co]; omega
  have c : co (u + n) = true := by simp [co]; omega
  have d : co (v + n) = true := by simp [co]; omega
  simp [mayB, squareL, mayFrom, rightB, nearB, a, b, c, d, show co 0 = true by decide]
theorem sq_cts (hu : -400 ≤ u ∧ u ≤ 400) (hv : -400 ≤ v ∧ v ≤ 400) (hn : 1 ≤ n ∧ n ≤ 500) : ctsL (squareL u v n) = [⟨u, v, [sqE1 u v n, sqE2 u v n, sqE3 u v n], true⟩] := by
  rw [ctsL_may (sq_may hu hv hn)]; rfl
theorem sq_pieces (hn : 1 ≤ n) : piecesC ⟨u, v, [sqE1 u v n, sqE2 u v n, sqE3 u v n], true⟩ = sqPs u v n := by
  have m1 : moved (sqE1 u v n) = true := by simp [moved, sqE1]; omega
  have m2 : moved (sqE2 u v n) = true := by simp [moved, sqE2]; omega
  have m3 : moved (sqE3 u v n) = true := by simp [moved, sqE3]; omega
  have hb : backE ⟨u, v, [sqE1 u v n, sqE2 u v n, sqE3 u v n], true⟩ = sqE4 u v n := rfl
  have m4 : moved (sqE4 u v n) = true := by simp [moved, sqE4]; omega
  unfold piecesC
  rw [hb]
  simp [m1, m2, m3, m4, sqPs]
theorem sq_sum (hn : 1 ≤ n) (h1 : n ≤ 8191) : sumL (sqPs u v n) = 4 * n := by
  obtain ⟨a, b, c, d⟩ := sq_lens (u := u) (v := v) hn h1
  simp only [sumL, sqPs, a, b, c, d]; omega
/-- A piece's beginning and end. -/
theorem atE_ends {e : Ed} (h : 1 ≤ lenE e) : atE e 0 = (e.x0, e.y0) ∧ atE e (lenE e) = (e.x1, e.y1) := by
  unfold atE
  have e1 : e.x0 * lenE e + (e.x1 - e.x0) * 0 = e.x0 * lenE e := by grind
  have e2 : e.y0 * lenE e + (e.y1 - e.y0) * 0 = e.y0 * lenE e := by grind
  have e3 : e.x0 * lenE e + (e.x1 - e.x0) * lenE e = e.x1 * lenE e := by grind
  have e4 : e.y0 * lenE e + (e.y1 - e.y0) * lenE e = e.y1 * lenE e := by grind
  rw [e1, e2, e3, e4, rnd_exact _ _ (by omega), rnd_exact _ _ (by omega), rnd_exact _ _ (by omega), rnd_exact _ _ (by omega)]
  exact ⟨rfl, rfl⟩
/-- The corners. -/
theorem sq_at (hn : 1 ≤ n) (h1 : n ≤ 8191) : atW (sqPs u v n) 0 = (u, v) ∧ atW (sqPs u v n) n = (u + n, v) ∧ atW (sqPs u v n) (2 * n) = (u + n, v + n) ∧ atW (sqPs u v n) (3 * n) = (u, v + n) ∧ atW (sqPs u v n) (4 * n) = (u, v) := by
  obtain ⟨a, b, c, d⟩ := sq_lens (u := u) (v := v) hn h1
  have a1 := atE_ends (e := sqE1 u v n) (by omega)
  have b1 := (atE_ends (e := sqE2 u v n) (by omega)).2
  have c1 := (atE_ends (e := sqE3 u v n) (by omega)).2
  have d1 := (atE_ends (e := sqE4 u v n) (by omega)).2
  rw [a] at a1
  rw [b] at b1
  rw [c] at c1
  rw [d] at d1
  unfold sqPs
  refine ⟨?_, ?_, ?_, ?_, ?_⟩
  · rw [atW, a, if_pos (by omega), a1.1]; rfl
  · rw [atW, a, if_pos (by omega), a1.2]; rfl
  · rw [atW, a, if_neg (by omega), atW, b, if_pos (by omega), show 2 * n - n = n by omega, b1]; rfl
  · rw [atW, a, if_neg (by omega), atW, b, if_neg (by omega), atW, c, if_pos (by omega), show 3 * n - n - n = n by omega, c1]; rfl
  · rw [atW, a, if_neg (by omega), atW, b, if_neg (by omega), atW, c, if_neg (by omega), atW, d, if_pos (by omega), show 4 * n - n - n - n = n by omega, d1]; rfl
theorem sq_part (hn : 1 ≤ n) (h1 : n ≤ 8191) (i : Int) (hi : 0 ≤ i ∧ i ≤ 3) : innW (sqPs u v n) (i * n) ((i + 1) * n) = [] := by
  obtain ⟨a, b, c, d⟩ := sq_lens (u := u) (v := v) hn h1
  have hc : i = 0 ∨ i = 1 ∨ i = 2 ∨ i = 3 := by omega
  unfold innW sqPs
  simp only [innF, a, b, c, d, innE]
  rcases hc with rfl | rfl | rfl | rfl <;>
    (rw [if_neg (by omega), if_neg (by omega), if_neg (by omega), if_neg (by omega)]; rfl)
theorem pre_one (n : Int) : ∀ j, pre [n] j = j * n
  | 0 => by simp [pre]
  | j + 1 => by
    have := pre_one n j
    simp only [pre, this, List.length_singleton, Nat.mod_one, List.getD_cons_zero]; grind
theorem pre_two (n : Int) (j : Nat) : pre [n, n] j = j * n := by
  rw [← pre_one n j]; exact pre_dbl [n] j
/-- One dash. -/
theorem sq_dash {on : List Int} (hp : ∀ j, pre on j = j * n) (hn : 1 ≤ n) (h1 : n ≤ 8191) (k j : Nat) :
    dashAt on (k * n) (sqPs u v n) j = if j % 2 = 0 ∧ k ≤ j ∧ j < k + 4 then ⟨1, (atW (sqPs u v n) ((j - k : Int) * n)).1, (atW (sqPs u v n) ((j - k : Int) * n)).2, 0, 0⟩ :: [⟨2, (atW (sqPs u v n) ((j - k + 1 : Int) * n)).1, (atW (sqPs u v n) ((j - k + 1 : Int) * n)).2, 0, 0⟩] else [] := by
  unfold dashAt
  rw [sq_sum hn h1, hp, hp]
  have e1 : (j : Int) * n - k * n = (j - k) * n := by grind
  have e2 : ((j + 1 : Nat) : Int) * n - k * n = (j - k + 1) * n := by grind
  rw [e1, e2]
  have hmul : ∀ a b : Int, a ≤ b → a * n ≤ b * n := fun a b h => Int.mul_le_mul_of_nonneg_right h (by omega)
  by_cases h : j % 2 = 0 ∧ k ≤ j ∧ j < k + 4
  · have a1 := hmul ((j : Int) - k) 3 (by omega)
    have a2 := hmul 1 ((j : Int) - k + 1) (by omega)
    have a3 := hmul 0 ((j : Int) - k) (by omega)
    have a4 := hmul ((j : Int) - k + 1) 4 (by omega)
    rw [if_pos h, if_pos ⟨h.1, by omega, by omega, .inl (by omega)⟩]
    have m1 : max (((j : Int) - k) * n) 0 = ((j : Int) - k) * n := by omega
    have m2 : min (((j : Int) - k + 1) * n) (4 * n) = ((j : Int) - k + 1) * n := by omega
    rw [m1, m2]
    unfold partW
    rw [sq_part hn h1 _ (by omega)]; rfl
  · rw [if_neg h, if_neg]
    rintro ⟨h2, _, h3, h4⟩
    refine h ⟨h2, ?_, ?_⟩
    · apply Decidable.byContradiction; intro hk
      have := hmul ((j : Int) - k + 1) 0 (by omega)
      have := hmul ((j : Int) - k) (-1) (by omega)
      omega
    · apply Decidable.byContradiction; intro hk
      have := hmul 4 ((j : Int) - k) (by omega)
      omega
theorem sq_row1 (hn : 1 ≤ n) (h1 : n ≤ 8191) : Row [n] := ⟨by simp; omega, by simp; omega, by simp; omega⟩
theorem sq_row2 (hn : 1 ≤ n) (h1 : n ≤ 8191) : Row [n, n] := ⟨by simp; omega, by simp; omega, by simp; omega⟩
theorem sq_cut {on : List Int} (hr : Row on) (hp : ∀ j, pre on j = j * n) (hu : -400 ≤ u ∧ u ≤ 400) (hv : -400 ≤ v ∧ v ≤ 400) (hn : 1 ≤ n ∧ n ≤ 500) (k : Nat) (hk : k < 6) : cutL on (k * n) (squareL u v n) = (sqW u v n k, 0) := by
  have hd : dashL on (k * n) (squareL u v n) = sqW u v n k := by
    unfold dashL
    rw [sq_cts hu hv hn]
    simp only [List.flatMap_cons, List.flatMap_nil, List.append_nil]
    unfold dashC
    rw [sq_pieces hn.1, ← dashTo_all hr (k := k + 4) (by rw [sq_sum hn.1 (by omega), hp]; have e : (((k + 4 : Nat) : Int)) * n = k * n + 4 * n := by grind
                                                         omega)]
    unfold dashTo
    have hf : dashAt on (k * n) (sqPs u v n) = _ := funext fun j => sq_dash hp hn.1 (by omega) k j
    rw [hf]
    obtain ⟨p0, p1, p2, p3, p4⟩ := sq_at (u := u) (v := v) hn.1 (show n ≤ 8191 by omega)
    have hc : k = 0 ∨ k = 1 ∨ k = 2 ∨ k = 3 ∨ k = 4 ∨ k = 5 := by omega
    rcases hc with rfl | rfl | rfl | rfl | rfl | rfl <;>
      simp [List.range_succ, sqW, p0, p1, p2, p3, p4]
  rw [cutL_all hr.ne (by rw [hd]; unfold sqW; split <;> simp), hd]
end

end Go.Proofs.YtdfkbbcoolgfiaaGreat

namespace Go.Proofs.YtdfkbbcoolgfiaaGreat

theorem filter_chain : ∀ (es : List Ed) (x y : Int), chain x y es → chain x y (es.filter moved) ∧ endX x (es.filter moved) = endX x es ∧ endY y (es.filter moved) = endY y es
  | [], x, y, _ => ⟨trivial, rfl, rfl⟩
  | e :: es, x, y, h => by
    obtain ⟨hx, hy, hc⟩ : e.x0 = x ∧ e.y0 = y ∧ chain e.x1 e.y1 es := h
    obtain ⟨h1, h2, h3⟩ := filter_chain es e.x1 e.y1 hc
    by_cases hm : moved e = true
    · rw [List.filter_cons_of_pos hm]
      exact ⟨⟨hx, hy, h1⟩, by rw [endX_cons, endX_cons, h2], by rw [endY_cons, endY_cons, h3]⟩
    · rw [List.filter_cons_of_neg hm]
      have he : e.x1 = x ∧ e.y1 = y := by
        simp [moved] at hm; omega
      rw [he.1, he.2] at h1
      rw [he.1] at h2
      rw [he.2] at h3
      exact ⟨h1, by rw [endX_cons, h2, he.1], by rw [endY_cons, h3, he.2]⟩
theorem pieces_chain {c : Ct} (h : GoodC c) : chain c.x c.y (piecesC c) := by
  obtain ⟨h1, h2, h3⟩ := filter_chain c.es c.x c.y h.1
  unfold piecesC
  split
  · exact chain_app _ _ _ _ h1 ⟨by rw [h2]; rfl, by rw [h3]; rfl, trivial⟩
  · rw [List.append_nil]; exact h1
/-- Each piece begins where the one before it ends. -/
def Joined (ps : List Ed) : Prop := ∀ (k : Nat) (h : k + 1 < ps.length), ps[k + 1].x0 = (ps[k]'(Nat.lt_of_succ_lt h)).x1 ∧ ps[k + 1].y0 = (ps[k]'(Nat.lt_of_succ_lt h)).y1
theorem chain_joined {ps : List Ed} {x y : Int} (h : chain x y ps) : Joined ps := by
  intro k hk
  obtain ⟨h1, h2⟩ := chain_at2 ps x y (k + 1) hk h
  rw [List.take_succ_eq_append_getElem (by omega), endX_snoc] at h1
  rw [List.take_succ_eq_append_getElem (by omega), endY_snoc] at h2
  exact ⟨h1, h2⟩
theorem pieces_joined {c : Ct} (h : GoodC c) : Joined (piecesC c) := chain_joined (pieces_chain h)
/-- A place at a piece's beginning is the end of the piece before. -/
theorem atW_on {ps : List Ed} (hj : Joined ps) (hp : ∀ e ∈ ps, 1 ≤ lenE e) (k : Nat) (s : Int) (hk : k < ps.length) (h0 : sumL (ps.take k) ≤ s) (h1 : s ≤ sumL (ps.take (k + 1))) :
    atE ps[k] (s - sumL (ps.take k)) = atW ps s := by
  by_cases hc : k = 0 ∨ sumL (ps.take k) < s
  · exact (atW_at ps k s hk (fun h => by omega) h1).symm
  · obtain ⟨j, rfl⟩ : ∃ j, k = j + 1 := ⟨k - 1, by omega⟩
    have hs : s = sumL (ps.take (j + 1)) := by omega
    have hjl : j < ps.length := by omega
    have ht := sumL_take ps j hjl
    have hl := hp ps[j] (List.getElem_mem hjl)
    rw [atW_at ps j s hjl (fun _ => by omega) (by omega)]
    have e1 : s - sumL (ps.take (j + 1)) = 0 := by omega
    have e2 : s - sumL (ps.take j) = lenE ps[j] := by omega
    rw [e1, e2, (atE_ends hl).2, (atE_ends (hp ps[j + 1] (List.getElem_mem hk))).1, (hj j hk).1, (hj j hk).2]
/-- From where on nothing ends before a place. -/
theorem innW_from (ps : List Ed) (k : Nat) (a b : Int) (hb : b ≤ sumL (ps.take (k + 1)) ∨ ps.length ≤ k) : innW ps a b = innW (ps.take k) a b := by
  have hall : ∀ d, k + d ≤ ps.length → innW (ps.take (k + d)) a b = innW (ps.take k) a b := by
    intro d
    induction d with
    | zero => intro _; rfl
    | succ d ih =>
      intro hd
      have hlt : k + d < ps.length := by omega
      rw [← Nat.add_assoc, innW_take ps (k + d) hlt, ih (by omega)]
      have hm : sumL (ps.take (k + 1)) ≤ sumL (ps.take (k + d + 1)) := by
        have := sumL_take_le (ps.take (k + d + 1)) (k + 1)
        rwa [List.take_take, Nat.min_eq_left (by omega)] at this
      have : innE (sumL (ps.take (k + d + 1))) ps[k + d] a b = [] := by
        unfold innE; rw [if_neg (by omega)]
      rw [this, List.append_nil]
  by_cases hk : k ≤ ps.length
  · have := hall (ps.length - k) (by omega)
    rwa [show k + (ps.length - k) = ps.length by omega, List.take_length] at this
  · rw [List.take_of_length_le (by omega)]
theorem innW_before (ps : List Ed) (a b : Int) : ∀ k, k ≤ ps.length → sumL (ps.take k) ≤ a → innW (ps.take k) a b = []
  | 0, _, _ => by simp [innW, innF]
  | k + 1, hk, ha => by
    have ht := sumL_take ps k hk
    have := lenE_nonneg ps[k]
    rw [innW_take ps k hk, innW_before ps a b k (by omega) (by omega)]
    unfold innE; rw [if_neg (by omega)]; rfl

end Go.Proofs.YtdfkbbcoolgfiaaGreat

namespace Go.Proofs.YtdfkbbcoolgfiaaGreat

def lnE (e : Ed) : Sg := ⟨2, e.x1, e.y1, 0, 0⟩
/-- A contour as an open one, its pieces alone. -/
def noneC (c : Ct) : List Sg := if (piecesC c).length = 0 then [] else ⟨1, c.x, c.y, 0, 0⟩ :: (piecesC c).map lnE
def noneL (l : List Sg) : List Sg := (ctsL l).flatMap noneC

theorem filter_start : ∀ (es : List Ed) (x y : Int), chain x y es → (es.filter moved = [] ∧ endX x es = x ∧ endY y es = y) ∨ (∃ e r, es.filter moved = e :: r ∧ e.x0 = x ∧ e.y0 = y)
  | [], x, y, _ => .inl ⟨rfl, rfl, rfl⟩
  | e :: es, x, y, h => by
    obtain ⟨hx, hy, hc⟩ : e.x0 = x ∧ e.y0 = y ∧ chain e.x1 e.y1 es := h
    cases hm : moved e
    · simp only [moved, Bool.or_eq_false_iff, Bool.not_eq_false', beq_iff_eq] at hm
      have h1 : e.x1 = x := by omega
      have h2 : e.y1 = y := by omega
      rw [h1, h2] at hc
      have hm' : moved e = false := by simp [moved]; omega
      rw [endX_cons, endY_cons, h1, h2, List.filter_cons, hm']
      simpa using filter_start es x y hc
    · right
      exact ⟨e, es.filter moved, by simp [hm], hx, hy⟩
theorem pieces_start {c : Ct} (h : GoodC c) : piecesC c = [] ∨ ∃ e r, piecesC c = e :: r ∧ e.x0 = c.x ∧ e.y0 = c.y := by
  unfold piecesC
  rcases filter_start c.es c.x c.y h.1 with ⟨h1, h2, h3⟩ | ⟨e, r, h1, h2, h3⟩
  · left
    have hb : moved (backE c) = false := by simp [moved, backE, h2, h3]
    rw [h1, hb]; simp
  · right
    exact ⟨e, r ++ _, by rw [h1, List.cons_append], h2, h3⟩
theorem innF_all : ∀ (l : List Ed) (e : Ed) (t a : Int), (∀ d ∈ e :: l, 1 ≤ lenE d) → a ≤ t → innF t (e :: l) a (t + sumL (e :: l)) ++ [lnE ((e :: l).getLast (by simp))] = (e :: l).map lnE
  | [], e, t, a, h, ha => by
    have : innE (t + lenE e) e a (t + sumL [e]) = [] := by unfold innE; rw [if_neg (by simp only [sumL]; omega)]
    simp [innF, this]
  | d :: l, e, t, a, h, ha => by
    have he := h e (by simp)
    have hd := h d (by simp)
    have hn := sumL_nonneg l
    have ih := innF_all l d (t + lenE e) a (fun x hx => h x (by simp [hx])) (by omega)
    have hs : t + sumL (e :: d :: l) = t + lenE e + sumL (d :: l) := by simp only [sumL]; omega
    rw [hs]
    have h1 : innE (t + lenE e) e a (t + lenE e + sumL (d :: l)) = [lnE e] := by
      unfold innE; rw [if_pos (by simp only [sumL]; omega)]; rfl
    rw [innF, h1, List.append_assoc, List.getLast_cons (by simp), ih]; rfl
theorem atW_last {l : List Ed} (h : ∀ e ∈ l, 1 ≤ lenE e) (hne : l ≠ []) : atW l (sumL l) = ((l.getLast hne).x1, (l.getLast hne).y1) := by
  have hl : 0 < l.length := List.length_pos_iff.2 hne
  have h1 : l.take (l.length - 1 + 1) = l := List.take_of_length_le (by omega)
  have h2 := sumL_take l (l.length - 1) (by omega)
  rw [h1] at h2
  have hm := h _ (List.getElem_mem (show l.length - 1 < l.length by omega))
  rw [atW_at l (l.length - 1) (sumL l) (by omega) (fun _ => by omega) (by rw [h1]; omega)]
  have e : sumL l - sumL (l.take (l.length - 1)) = lenE l[l.length - 1] := by omega
  rw [e, (atE_ends hm).2, List.getLast_eq_getElem]
theorem atW_first {e : Ed} {l : List Ed} (h : 1 ≤ lenE e) : atW (e :: l) 0 = (e.x0, e.y0) := by
  unfold atW; rw [if_pos (by omega), (atE_ends h).1]
theorem part_all {c : Ct} (h : GoodC c) (hb : ∀ e ∈ c.es, e.bent = false) (hne : piecesC c ≠ []) : partW (piecesC c) 0 (sumL (piecesC c)) = ⟨1, c.x, c.y, 0, 0⟩ :: (piecesC c).map lnE := by
  have hok : ∀ e ∈ piecesC c, 1 ≤ lenE e := fun e he => by
    obtain ⟨h1, h2⟩ := piecesC_ok h hb e he
    exact lenE_pos h1.2 h2
  unfold partW
  rw [atW_last hok hne]
  rcases pieces_start h with h0 | ⟨e, r, h1, h2, h3⟩
  · exact absurd h0 hne
  · have hlast : ∀ (L : List Ed) (hL : L ≠ []) (he : L = e :: r), L.getLast hL = (e :: r).getLast (by simp) := by intro L hL he; subst he; rfl
    rw [hlast _ hne h1]
    rw [h1] at hok ⊢
    rw [atW_first (hok e (by simp)), h2, h3]
    have := innF_all r e 0 0 hok (Int.le_refl _)
    rw [Int.zero_add] at this
    rw [← this]; rfl
theorem row_none : Row [30000, 5] := ⟨by simp, by simp, by simp⟩
theorem dash_none {c : Ct} (h : GoodC c) (hb : ∀ e ∈ c.es, e.bent = false) (hs : sumL (piecesC c) ≤ 30000) : dashC [30000, 5] 0 c = noneC c := by
  unfold dashC noneC
  by_cases h0 : (piecesC c).length = 0
  · rw [if_pos h0]
    have : piecesC c = [] := List.eq_nil_of_length_eq_zero h0
    rw [this]; exact dashW_none rfl _ _
  · have hne : piecesC c ≠ [] := fun e => h0 (by rw [e]; rfl)
    have hp : 1 ≤ sumL (piecesC c) := by
      obtain ⟨e, r, he⟩ : ∃ e r, piecesC c = e :: r := by cases hh : piecesC c with | nil => exact absurd hh hne | cons e r => exact ⟨e, r, rfl⟩
      have h1 := piecesC_ok h hb e (by rw [he]; simp)
      have h2 := lenE_pos h1.1.2 h1.2
      have h3 := sumL_nonneg r
      rw [he]; simp only [sumL]; omega
    have p0 : pre [30000, 5] 0 = 0 := rfl
    have p1 : pre [30000, 5] 1 = 30000 := by simp [pre]
    have p2 : pre [30000, 5] 2 = 30005 := by simp [pre]
    rw [if_neg h0, ← dashTo_all row_none (k := 2) (by rw [p2]; omega)]
    have e0 : dashAt [30000, 5] 0 (piecesC c) 0 = partW (piecesC c) 0 (sumL (piecesC c)) := by
      unfold dashAt
      rw [p0, show 0 + 1 = 1 from rfl, p1, if_pos (by omega)]
      congr 1 <;> omega
    have e1 : dashAt [30000, 5] 0 (piecesC c) 1 = [] := by unfold dashAt; rw [if_neg (by omega)]
    rw [dashTo_succ, dashTo_succ, e0, e1, part_all h hb hne]
    simp [dashTo]
/-- On a small page. -/
def sm (v : Int) : Prop := -32 ≤ v ∧ v < 288
def SmE (e : Ed) : Prop := sm e.x0 ∧ sm e.y0 ∧ sm e.x1 ∧ sm e.y1
def SmC (c : Ct) : Prop := sm c.x ∧ sm c.y ∧ ∀ e ∈ c.es, SmE e
theorem cts_small : ∀ (l : List Sg) (st : List Ct × Int × Int), (∀ s ∈ l, smallSg s) → sm st.2.1 → sm st.2.2 → (∀ c ∈ st.1, SmC c) → ∀ c ∈ (l.foldl ctStep st).1, SmC c
  | [], _, _, _, _, h => h
  | s :: l, st, hk, hx, hy, h => by
    rw [List.foldl_cons]
    have hs := hk s (by simp)
    have hk' : ∀ t ∈ l, smallSg t := fun t ht => hk t (by simp [ht])
    unfold ctStep
    split
    · refine cts_small l _ hk' hs.1 hs.2.1 fun c hc => ?_
      rw [List.mem_append, List.mem_singleton] at hc
      rcases hc with hc | rfl
      · exact h c hc
      · exact ⟨hs.1, hs.2.1, fun e he => by simp at he⟩
    · split
      · refine cts_small l _ hk' hx hy fun c hc => ?_
        rcases mem_modLast _ _ _ hc with hc | ⟨d, hd, rfl⟩
        · exact h c hc
        · exact h d hd
      · refine cts_small l _ hk' hs.1 hs.2.1 fun c hc => ?_
        rcases mem_modLast _ _ _ hc with hc | ⟨d, hd, rfl⟩
        · exact h c hc
        · obtain ⟨d1, d2, d3⟩ := h d hd
          refine ⟨d1, d2, fun e he => ?_⟩
          simp only [List.mem_append, List.mem_singleton] at he
          rcases he with he | rfl
          · exact d3 e he
          · exact ⟨hx, hy, hs.1, hs.2.1⟩
theorem ctsL_small {l : List Sg} (h : ∀ s ∈ l, smallSg s) : ∀ c ∈ ctsL l, SmC c := by
  unfold ctsL; split
  · intro c hc; simp at hc
  · exact cts_small l _ h (by unfold sm; simp) (by unfold sm; simp) (fun c hc => by simp at hc)
theorem len_small {e : Ed} (h : SmE e) : lenE e ≤ 452 := by
  obtain ⟨⟨a1, a2⟩, ⟨b1, b2⟩, ⟨c1, c2⟩, ⟨d1, d2⟩⟩ := h
  have a := sq_bd (a := e.x1 - e.x0) (A := 319) (by omega)
  have b := sq_bd (a := e.y1 - e.y0) (A := 319) (by omega)
  unfold lenE
  exact flr_le (by unfold sqE; omega) (by unfold sqE; omega) (by omega) (by unfold sqE; omega)
theorem end_small : ∀ (es : List Ed) (x y : Int), (∀ e ∈ es, SmE e) → sm x → sm y → sm (endX x es) ∧ sm (endY y es)
  | [], _, _, _, hx, hy => ⟨hx, hy⟩
  | e :: es, x, y, h, _, _ => by
    rw [endX_cons, endY_cons]
    have := h e (by simp)
    exact end_small es _ _ (fun d hd => h d (by simp [hd])) this.2.2.1 this.2.2.2
theorem pieces_small {c : Ct} (h : SmC c) : ∀ e ∈ piecesC c, SmE e := by
  intro e he
  unfold piecesC at he
  rw [List.mem_append, List.mem_filter] at he
  rcases he with he | he
  · exact h.2.2 e he.1
  · split at he
    · rw [List.mem_singleton] at he
      subst he
      obtain ⟨h1, h2⟩ := end_small c.es c.x c.y h.2.2 h.1 h.2.1
      exact ⟨h1, h2, h.1, h.2.1⟩
    · simp at he
theorem sum_small : ∀ (l : List Ed), (∀ e ∈ l, SmE e) → sumL l ≤ 452 * l.length
  | [], _ => by simp [sumL]
  | e :: l, h => by
    have := sum_small l (fun d hd => h d (by simp [hd]))
    have := len_small (h e (by simp))
    simp only [sumL, List.length_cons]; omega
theorem piecesC_len2 (c : Ct) : (piecesC c).length ≤ c.es.length + (clL c.shut).length := by
  unfold piecesC
  rw [List.length_append]
  have := List.length_filter_le moved c.es
  cases hs : c.shut
  · simp; omega
  · rw [Bool.true_and]
    have h2 : (clL true).length = 1 := rfl
    rw [h2]
    by_cases hm : moved (backE c) = true
    · rw [if_pos hm]; simp; omega
    · rw [if_neg hm]; simp; omega
theorem noneC_len (c : Ct) : (noneC c).length ≤ (pathC c).length := by
  have h := piecesC_len2 c
  have hp : (pathC c).length = 1 + (c.es.length + (clL c.shut).length) := by unfold pathC; simp [Nat.add_comm]
  rw [hp]
  unfold noneC
  by_cases h0 : (piecesC c).length = 0
  · rw [if_pos h0]; simp
  · rw [if_neg h0, List.length_cons, List.length_map]; omega
theorem none_law {l : List Sg} (h : MadeOK l false) : cutL [30000, 5] 0 l = (noneL l, 0) ∧ (noneL l).length ≤ 12 := by
  have hmay := h.may
  have hl := h.2.1
  have hd : dashL [30000, 5] 0 l = noneL l := by
    unfold dashL noneL
    have hc : ∀ c ∈ ctsL l, dashC [30000, 5] 0 c = noneC c := fun c hc => by
      refine dash_none (ctsL_good l c hc) (ctsL_straight (fun s hs => h.2.2.2 rfl s hs) c hc) ?_
      have h1 := sum_small _ (pieces_small (ctsL_small h.2.2.1 c hc))
      have h2 := piecesC_len c
      have h3 := cts_es l c hc
      omega
    generalize ctsL l = cs at hc
    induction cs with
    | nil => rfl
    | cons c cs ih =>
      rw [List.flatMap_cons, List.flatMap_cons, hc c (by simp), ih (fun d hd => hc d (by simp [hd]))]
  have hlen : (noneL l).length ≤ 12 := by
    have h1 : (noneL l).length ≤ (pathOf (ctsL l)).length := by
      unfold noneL pathOf
      generalize ctsL l = cs
      induction cs with
      | nil => simp
      | cons c cs ih =>
        have := noneC_len c
        rw [List.flatMap_cons, List.flatMap_cons, List.length_append, List.length_append]; omega
    rw [pathOf_ctsL hmay] at h1
    omega
  exact ⟨by rw [cutL_all (by simp) (by rw [hd]; omega), hd], hlen⟩

end Go.Proofs.YtdfkbbcoolgfiaaGreat
