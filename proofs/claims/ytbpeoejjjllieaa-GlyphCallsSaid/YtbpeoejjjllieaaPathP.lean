/- The plain side of turning a path: contours, turned and flat. -/
import Derived.Test.YtbpeoejjjllieaaAgP
namespace Go.Proofs.Ytbpeoejjjllieaa

/-- An edge from its end to its beginning. -/
def flip (e : Ed) : Ed := ⟨e.x1, e.y1, e.bent, e.cx, e.cy, e.x0, e.y0⟩
theorem flip_flip (e : Ed) : flip (flip e) = e := rfl
theorem edOK_flip (e : Ed) : edOK (flip e) = edOK e := by
  rw [Bool.eq_iff_iff, edOK_iff, edOK_iff]
  simp only [flip]
  constructor <;> rintro ⟨h0, h1, h2, h3, h4, h5, h6⟩ <;> exact ⟨h4, h5, h2, h3, h0, h1, h6⟩
theorem farI_flip (x0 y0 cx cy x1 y1 : Int) : farI x1 y1 cx cy x0 y0 = farI x0 y0 cx cy x1 y1 := by
  unfold farI
  have h1 : x1 - 2 * cx + x0 = x0 - 2 * cx + x1 := by omega
  have h2 : y1 - 2 * cy + y0 = y0 - 2 * cy + y1 := by omega
  rw [h1, h2]
theorem cntI_flip (e : Ed) : cntI (flip e) = cntI e := by
  unfold cntI
  rw [edOK_flip]
  simp only [flip, farI_flip]
theorem plc1_flip (a c b k n : Int) : plc1 b c a (n - k) n = plc1 a c b k n := by
  unfold plc1
  have : b * (n - (n - k)) * (n - (n - k)) + 2 * c * (n - k) * (n - (n - k)) + a * (n - k) * (n - k) = a * (n - k) * (n - k) + 2 * c * k * (n - k) + b * k * k := by grind
  rw [this]
theorem plc1_zero (a c b n : Int) (hn : 1 ≤ n) : plc1 a c b 0 n = a := by
  have := plc1_flip a c b 0 n
  rw [Int.sub_zero, plc1_last b c a n hn] at this
  exact this.symm
theorem plcX_all (e : Ed) (n : Int) (k : Nat) (hn : 1 ≤ n) : plcX e n k = plc1 e.x0 e.cx e.x1 k n := by
  unfold plcX; split
  · rename_i h; subst h; exact (plc1_zero _ _ _ n hn).symm
  · rfl
theorem plcY_all (e : Ed) (n : Int) (k : Nat) (hn : 1 ≤ n) : plcY e n k = plc1 e.y0 e.cy e.y1 k n := by
  unfold plcY; split
  · rename_i h; subst h; exact (plc1_zero _ _ _ n hn).symm
  · rfl
theorem plcX_flip (e : Ed) (n k : Nat) (hn : 1 ≤ n) (hk : k ≤ n) : plcX (flip e) n (n - k) = plcX e n k := by
  rw [plcX_all _ _ _ (by omega), plcX_all _ _ _ (by omega), Int.ofNat_sub hk]
  exact plc1_flip e.x0 e.cx e.x1 k n
theorem plcY_flip (e : Ed) (n k : Nat) (hn : 1 ≤ n) (hk : k ≤ n) : plcY (flip e) n (n - k) = plcY e n k := by
  rw [plcY_all _ _ _ (by omega), plcY_all _ _ _ (by omega), Int.ofNat_sub hk]
  exact plc1_flip e.y0 e.cy e.y1 k n
/-- The lines of the edge turned are the lines, turned. -/
theorem lns_flip {e : Ed} (h : edOK e = true) : lns (flip e) = ((lns e).map flip).reverse := by
  have h' : edOK (flip e) = true := by rw [edOK_flip]; exact h
  cases hb : e.bent
  · rw [lns_flat h hb, lns_flat h' hb]; rfl
  · have hn := cntI_bd h hb
    rw [lns_yes h hb, lns_yes h' hb, cntI_flip]
    obtain ⟨n, hn'⟩ : ∃ n : Nat, cntI e = n := ⟨(cntI e).toNat, by omega⟩
    rw [hn']
    have ht : ((n : Int)).toNat = n := rfl
    rw [ht]
    apply List.ext_getElem
    · simp [lnsTo]
    · intro i h1 h2
      have hi : i < n := by simpa [lnsTo] using h1
      rw [List.getElem_reverse]
      simp only [List.getElem_map, List.length_map, lnsTo, List.getElem_range, List.length_range, flip]
      have e1 : n - 1 - i + 1 = n - i := by omega
      have x1 := plcX_flip e n (n - i) (by omega) (by omega)
      have x2 := plcX_flip e n (n - 1 - i) (by omega) (by omega)
      have y1 := plcY_flip e n (n - i) (by omega) (by omega)
      have y2 := plcY_flip e n (n - 1 - i) (by omega) (by omega)
      have e2 : n - (n - i) = i := by omega
      have e3 : n - (n - 1 - i) = i + 1 := by omega
      rw [e2] at x1 y1
      rw [e3] at x2 y2
      rw [e1, ← x1, ← x2, ← y1, ← y2]
      simp [flip, hb]

/-- An edge's piece. -/
def sgE (e : Ed) : Sg := if e.bent then ⟨3, e.x1, e.y1, e.cx, e.cy⟩ else ⟨2, e.x1, e.y1, 0, 0⟩
def clL (b : Bool) : List Sg := if b then [⟨4, 0, 0, 0, 0⟩] else []
/-- A contour's pieces. -/
def pathC (c : Ct) : List Sg := ⟨1, c.x, c.y, 0, 0⟩ :: (c.es.map sgE ++ clL c.shut)
def pathOf (cs : List Ct) : List Sg := cs.flatMap pathC
/-- The edges hang together from x, y on. -/
def chain : Int → Int → List Ed → Prop
  | _, _, [] => True
  | x, y, e :: es => e.x0 = x ∧ e.y0 = y ∧ chain e.x1 e.y1 es
def endX (x : Int) (es : List Ed) : Int := (es.getLast?.map Ed.x1).getD x
def endY (y : Int) (es : List Ed) : Int := (es.getLast?.map Ed.y1).getD y
/-- A contour as Contours makes it. -/
def GoodC (c : Ct) : Prop := chain c.x c.y c.es ∧ (∀ e ∈ c.es, edOK e = true) ∧ co c.x = true ∧ co c.y = true
theorem endX_cons (x : Int) (e : Ed) (es : List Ed) : endX x (e :: es) = endX e.x1 es := by
  unfold endX
  cases es with
  | nil => rfl
  | cons d es =>
    obtain ⟨z, hz⟩ : ∃ z, (d :: es).getLast? = some z := ⟨_, List.getLast?_eq_some_getLast (by simp)⟩
    rw [List.getLast?_cons_cons, hz]; rfl
theorem endY_cons (y : Int) (e : Ed) (es : List Ed) : endY y (e :: es) = endY e.y1 es := by
  unfold endY
  cases es with
  | nil => rfl
  | cons d es =>
    obtain ⟨z, hz⟩ : ∃ z, (d :: es).getLast? = some z := ⟨_, List.getLast?_eq_some_getLast (by simp)⟩
    rw [List.getLast?_cons_cons, hz]; rfl
theorem sgE_step {x y : Int} {e : Ed} (h : edOK e = true) (hx : e.x0 = x) (hy : e.y0 = y) (a : List Ct) (c : Ct) :
    ctStep (a ++ [c], x, y) (sgE e) = (a ++ [{ c with es := c.es ++ [e] }], e.x1, e.y1) := by
  obtain ⟨x0, y0, bent, cx, cy, x1, y1⟩ := e
  simp only at hx hy
  subst hx; subst hy
  rw [edOK_iff] at h
  obtain ⟨-, -, -, -, -, -, h⟩ := h
  cases bent
  · simp at h
    obtain ⟨rfl, rfl⟩ := h
    simp [sgE, ctStep, modLast_snoc]
  · simp [sgE, ctStep, modLast_snoc]
theorem fold_es : ∀ (es : List Ed) (x y : Int) (a : List Ct) (c : Ct), chain x y es → (∀ e ∈ es, edOK e = true) →
    (es.map sgE).foldl ctStep (a ++ [c], x, y) = (a ++ [{ c with es := c.es ++ es }], endX x es, endY y es)
  | [], x, y, a, c, _, _ => by simp [endX, endY]
  | e :: es, x, y, a, c, hc, ho => by
    rw [List.map_cons, List.foldl_cons, sgE_step (ho e (by simp)) hc.1 hc.2.1, fold_es es _ _ _ _ hc.2.2 (fun d hd => ho d (by simp [hd])), endX_cons, endY_cons]
    simp
/-- A good contour's pieces make it. -/
theorem fold_C {c : Ct} (h : GoodC c) (st : List Ct × Int × Int) : (pathC c).foldl ctStep st = (st.1 ++ [c], endX c.x c.es, endY c.y c.es) := by
  unfold pathC
  rw [List.foldl_cons, List.foldl_append]
  have h1 : ctStep st ⟨1, c.x, c.y, 0, 0⟩ = (st.1 ++ [⟨c.x, c.y, [], false⟩], c.x, c.y) := by simp [ctStep]
  rw [h1, fold_es _ _ _ _ _ h.1 h.2.1]
  obtain ⟨x, y, es, b⟩ := c
  cases b <;> simp [clL, ctStep, modLast_snoc]
theorem fold_pathOf : ∀ (cs : List Ct) (_ : ∀ c ∈ cs, GoodC c) (st : List Ct × Int × Int), ((pathOf cs).foldl ctStep st).1 = st.1 ++ cs
  | [], _, st => by simp [pathOf]
  | c :: cs, h, st => by
    have : pathOf (c :: cs) = pathC c ++ pathOf cs := by simp [pathOf]
    rw [this, List.foldl_append, fold_C (h c (by simp)), fold_pathOf cs (fun d hd => h d (by simp [hd]))]
    simp
/-- Contours of the pieces of good contours. -/
theorem ctTo_pathOf {cs : List Ct} (h : ∀ c ∈ cs, GoodC c) : (ctTo (pathOf cs)).1 = cs := by
  have := fold_pathOf cs h ([], 0, 0)
  simpa [ctTo] using this

theorem endX_snoc (x : Int) (es : List Ed) (e : Ed) : endX x (es ++ [e]) = e.x1 := by simp [endX]
theorem endY_snoc (y : Int) (es : List Ed) (e : Ed) : endY y (es ++ [e]) = e.y1 := by simp [endY]
theorem chain_snoc : ∀ (es : List Ed) (x y : Int) (e : Ed), chain x y es → e.x0 = endX x es → e.y0 = endY y es → chain x y (es ++ [e])
  | [], _, _, _, _, hx, hy => ⟨hx, hy, trivial⟩
  | d :: es, x, y, e, hc, hx, hy => ⟨hc.1, hc.2.1, chain_snoc es _ _ e hc.2.2 (by rw [hx, endX_cons]) (by rw [hy, endY_cons])⟩
theorem pathOf_snoc (a : List Ct) (c : Ct) : pathOf (a ++ [c]) = pathOf a ++ pathC c := by simp [pathOf]
theorem lastK_snoc (l : List Sg) (s : Sg) : lastK (l ++ [s]) = s.kind := by simp [lastK]
/-- So far the contours are the path's. -/
def SoFar (l : List Sg) (st : List Ct × Int × Int) : Prop :=
  pathOf st.1 = l ∧ (∀ c ∈ st.1, GoodC c) ∧ (∀ a c, st.1 = a ++ [c] → st.2 = (endX c.x c.es, endY c.y c.es) ∧ (c.shut = true → lastK l = 4)) ∧ co st.2.1 = true ∧ co st.2.2 = true
theorem SoFar.step {l : List Sg} {st : List Ct × Int × Int} {s : Sg} (h : SoFar l st) (hr : rightB s (lastK l) = true) : SoFar (l ++ [s]) (ctStep st s) := by
  obtain ⟨h1, h2, h3, h4, h5⟩ := h
  obtain ⟨hp, hk⟩ := rightB_iff.1 hr
  obtain ⟨c1, c2, c3, c4⟩ := pieceB_co hp
  have hkk := pieceB_kind hp
  obtain ⟨kd, x, y, cx, cy⟩ := s
  simp only at hk c1 c2 c3 c4 hkk
  by_cases k1 : kd = 1
  · subst k1
    have hz : cx = 0 ∧ cy = 0 := by simp [pieceB] at hp; omega
    obtain ⟨rfl, rfl⟩ := hz
    refine ⟨?_, ?_, ?_, c1, c2⟩
    · simp only [ctStep, if_true]; rw [pathOf_snoc, h1]; rfl
    · intro c hc
      simp only [ctStep, if_true, List.mem_append, List.mem_singleton] at hc
      rcases hc with hc | rfl
      · exact h2 c hc
      · exact ⟨trivial, fun e he => by simp at he, c1, c2⟩
    · intro a c hac
      simp only [ctStep, if_true] at hac
      obtain ⟨-, hc⟩ := List.append_inj' hac rfl
      injection hc with hc _
      subst hc
      exact ⟨rfl, fun hh => by cases hh⟩
  · have hl0 : lastK l ≠ 0 ∧ lastK l ≠ 4 := by omega
    have hne : st.1 ≠ [] := fun hh => by rw [hh] at h1; rw [← h1] at hl0; exact hl0.1 rfl
    obtain ⟨ps, px, py⟩ := st
    obtain ⟨a, c, hac⟩ := snoc_of_ne ps hne
    subst hac
    obtain ⟨he, hs⟩ := h3 a c rfl
    simp only at h1 h2 he h4 h5
    injection he with hex hey
    have hsh : c.shut = false := by
      cases hc : c.shut
      · rfl
      · exact absurd (hs hc) hl0.2
    obtain ⟨X, Y, es, b⟩ := c
    simp only at hsh hex hey
    subst hsh
    have hgc := h2 ⟨X, Y, es, false⟩ (by simp)
    rw [pathOf_snoc] at h1
    by_cases k4 : kd = 4
    · subst k4
      have hz : x = 0 ∧ y = 0 ∧ cx = 0 ∧ cy = 0 := by simp [pieceB] at hp; omega
      obtain ⟨rfl, rfl, rfl, rfl⟩ := hz
      have hst : ctStep (a ++ [⟨X, Y, es, false⟩], px, py) ⟨4, 0, 0, 0, 0⟩ = (a ++ [⟨X, Y, es, true⟩], px, py) := by simp [ctStep, modLast_snoc]
      rw [hst]
      refine ⟨?_, ?_, ?_, h4, h5⟩
      · simp only
        rw [pathOf_snoc, ← h1, List.append_assoc]
        simp [pathC, clL]
      · intro d hd
        simp only [List.mem_append, List.mem_singleton] at hd
        rcases hd with hd | rfl
        · exact h2 d (by simp [hd])
        · exact hgc
      · intro a' d had
        obtain ⟨-, hc⟩ := List.append_inj' had rfl
        injection hc with hc _
        subst hc
        exact ⟨by rw [hex, hey], fun _ => by rw [lastK_snoc]⟩
    · have hst : ctStep (a ++ [⟨X, Y, es, false⟩], px, py) ⟨kd, x, y, cx, cy⟩ = (a ++ [⟨X, Y, es ++ [⟨px, py, kd == 3, cx, cy, x, y⟩], false⟩], x, y) := by simp [ctStep, k1, k4, modLast_snoc]
      rw [hst]
      have hed : edOK ⟨px, py, kd == 3, cx, cy, x, y⟩ = true := by
        rw [co_iff] at c1 c2 c3 c4 h4 h5
        refine edOK_mk h4 h5 c3 c4 c1 c2 ?_
        by_cases k3 : kd = 3
        · exact .inl (by simp [k3])
        · exact .inr (by simp [pieceB] at hp; omega)
      refine ⟨?_, ?_, ?_, c1, c2⟩
      · simp only
        rw [pathOf_snoc, ← h1, List.append_assoc]
        have : sgE ⟨px, py, kd == 3, cx, cy, x, y⟩ = ⟨kd, x, y, cx, cy⟩ := by
          by_cases k3 : kd = 3
          · subst k3; simp [sgE]
          · have k2 : kd = 2 := by omega
            have hz : cx = 0 ∧ cy = 0 := by simp [pieceB] at hp; omega
            obtain ⟨rfl, rfl⟩ := hz
            subst k2; simp [sgE]
        simp [pathC, clL, this]
      · intro d hd
        simp only [List.mem_append, List.mem_singleton] at hd
        rcases hd with hd | rfl
        · exact h2 d (by simp [hd])
        · obtain ⟨g1, g2, g3, g4⟩ := hgc
          refine ⟨chain_snoc es X Y _ g1 hex hey, fun e he => ?_, g3, g4⟩
          simp only [List.mem_append, List.mem_singleton] at he
          rcases he with he | rfl
          · exact g2 e he
          · exact hed
      · intro a' d had
        obtain ⟨-, hc⟩ := List.append_inj' had rfl
        injection hc with hc _
        subst hc
        exact ⟨by simp only [endX_snoc, endY_snoc], fun hh => by cases hh⟩
theorem soFar_take {l : List Sg} (h : mayB l = true) : ∀ k, k ≤ l.length → SoFar (l.take k) (ctTo (l.take k))
  | 0, _ => ⟨rfl, fun c hc => by simp [ctTo] at hc, fun a c hac => by simp [ctTo] at hac, by simp [ctTo, co], by simp [ctTo, co]⟩
  | k + 1, hk => by
    have ih := soFar_take h k (by omega)
    have hr := may_at l 0 k hk (mayB_from h).1
    have hlk : lastK (l.take k) = if h0 : 0 < k then (l[k - 1]'(by omega)).kind else 0 := by
      cases k with
      | zero => rfl
      | succ k => rw [List.take_succ_eq_append_getElem (by omega), lastK_snoc]; simp
    rw [← hlk] at hr
    rw [ctTo_take l k hk, List.take_succ_eq_append_getElem hk]
    exact ih.step hr
/-- A valid path is its contours' pieces; they are good. -/
theorem pathOf_ctTo {l : List Sg} (h : mayB l = true) : pathOf (ctTo l).1 = l ∧ ∀ c ∈ (ctTo l).1, GoodC c := by
  have := soFar_take h l.length (Nat.le_refl _)
  rw [List.take_length] at this
  exact ⟨this.1, this.2.1⟩

/-- A contour turned. -/
def turnC (c : Ct) : Ct := ⟨endX c.x c.es, endY c.y c.es, (c.es.map flip).reverse, c.shut⟩
/-- A contour of lines alone. -/
def flatC (c : Ct) : Ct := { c with es := c.es.flatMap lns }
theorem turn_cons (e : Ed) (es : List Ed) : ((e :: es).map flip).reverse = (es.map flip).reverse ++ [flip e] := by simp
/-- The edges turned hang together from the end on, to the beginning. -/
theorem chain_turn : ∀ (es : List Ed) (x y : Int), chain x y es → chain (endX x es) (endY y es) ((es.map flip).reverse) ∧ endX (endX x es) ((es.map flip).reverse) = x ∧ endY (endY y es) ((es.map flip).reverse) = y
  | [], _, _, _ => ⟨trivial, rfl, rfl⟩
  | e :: es, x, y, h => by
    obtain ⟨h1, h2, h3⟩ := chain_turn es e.x1 e.y1 h.2.2
    rw [turn_cons, endX_cons, endY_cons]
    refine ⟨chain_snoc _ _ _ _ h1 h2.symm h3.symm, ?_, ?_⟩
    · rw [endX_snoc]; exact h.1
    · rw [endY_snoc]; exact h.2.1
theorem end_co {es : List Ed} {x y : Int} (h : ∀ e ∈ es, edOK e = true) (hx : co x = true) (hy : co y = true) : co (endX x es) = true ∧ co (endY y es) = true := by
  by_cases hn : es = []
  · subst hn; exact ⟨hx, hy⟩
  · have hm := List.getLast_mem hn
    have ho := h _ hm
    rw [edOK_iff] at ho
    unfold endX endY
    rw [List.getLast?_eq_some_getLast hn]
    exact ⟨co_iff.2 ho.2.2.2.2.1, co_iff.2 ho.2.2.2.2.2.1⟩
theorem GoodC.turn {c : Ct} (h : GoodC c) : GoodC (turnC c) := by
  obtain ⟨h1, h2, h3, h4⟩ := h
  obtain ⟨e1, e2⟩ := end_co h2 h3 h4
  refine ⟨(chain_turn _ _ _ h1).1, fun e he => ?_, e1, e2⟩
  simp only [turnC, List.mem_reverse, List.mem_map] at he
  obtain ⟨d, hd, rfl⟩ := he
  rw [edOK_flip]; exact h2 d hd
theorem flip_map (es : List Ed) : es.map (flip ∘ flip) = es := by
  induction es with
  | nil => rfl
  | cons e es ih => rw [List.map_cons, ih]; rfl
theorem turn_turn {c : Ct} (h : GoodC c) : turnC (turnC c) = c := by
  obtain ⟨-, h2, h3⟩ := chain_turn _ _ _ h.1
  obtain ⟨x, y, es, b⟩ := c
  simp only [turnC] at *
  rw [h2, h3]
  simp only [List.map_reverse, List.reverse_reverse, List.map_map, flip_map]
theorem flat_map_lns (es : List Ed) (h : ∀ e ∈ es, edOK e = true) : ((es.map flip).reverse).flatMap lns = ((es.flatMap lns).map flip).reverse := by
  induction es with
  | nil => rfl
  | cons e es ih =>
    rw [turn_cons, List.flatMap_append, ih (fun d hd => h d (by simp [hd]))]
    simp only [List.flatMap_cons, List.flatMap_nil, List.append_nil, List.map_append, List.reverse_append]
    rw [lns_flip (h e (by simp))]

theorem flatSeg_sgE {e : Ed} (h : edOK e = true) : flatSeg e.x0 e.y0 (sgE e) = (lns e).map sgE := by
  cases hb : e.bent
  · rw [lns_flat h hb]
    simp [sgE, hb, flatSeg]
  · have h3 : (sgE e).kind = 3 := by simp [sgE, hb]
    rw [flatSeg_bow h3]
    have he : (⟨e.x0, e.y0, true, (sgE e).cx, (sgE e).cy, (sgE e).x, (sgE e).y⟩ : Ed) = e := by
      obtain ⟨x0, y0, b, cx, cy, x1, y1⟩ := e
      simp only at hb
      subst hb
      rfl
    rw [he]
    apply List.map_congr_left
    intro d hd
    obtain ⟨i, hi, rfl⟩ := List.getElem_of_mem hd
    simp [sgE, lnSg, lns_straight e hb i hi]
theorem sgE_end (e : Ed) : (sgE e).x = e.x1 ∧ (sgE e).y = e.y1 := by unfold sgE; split <;> exact ⟨rfl, rfl⟩
theorem flat_es : ∀ (es : List Ed) (x y : Int) (tl : List Sg), chain x y es → (∀ e ∈ es, edOK e = true) →
    flatFrom x y (es.map sgE ++ tl) = (es.flatMap lns).map sgE ++ flatFrom (endX x es) (endY y es) tl
  | [], x, y, tl, _, _ => rfl
  | e :: es, x, y, tl, hc, ho => by
    rw [List.map_cons, List.cons_append, flatFrom, endX_cons, endY_cons, (sgE_end e).1, (sgE_end e).2, flat_es es _ _ tl hc.2.2 (fun d hd => ho d (by simp [hd])), List.flatMap_cons, List.map_append, List.append_assoc, ← hc.1, ← hc.2.1, flatSeg_sgE (ho e (by simp))]
theorem flat_cl (b : Bool) (x y : Int) (tl : List Sg) : ∃ x' y', flatFrom x y (clL b ++ tl) = clL b ++ flatFrom x' y' tl := by
  cases b
  · exact ⟨x, y, rfl⟩
  · exact ⟨0, 0, by simp [clL, flatFrom, flatSeg]⟩
/-- A flat path is its flat contours' pieces. -/
theorem flat_pathOf : ∀ (cs : List Ct) (x y : Int), (∀ c ∈ cs, GoodC c) → flatFrom x y (pathOf cs) = pathOf (cs.map flatC)
  | [], _, _, _ => rfl
  | c :: cs, x, y, h => by
    have h1 : pathOf (c :: cs) = ⟨1, c.x, c.y, 0, 0⟩ :: (c.es.map sgE ++ (clL c.shut ++ pathOf cs)) := by simp [pathOf, pathC]
    have h2 : pathOf ((c :: cs).map flatC) = ⟨1, c.x, c.y, 0, 0⟩ :: ((c.es.flatMap lns).map sgE ++ (clL c.shut ++ pathOf (cs.map flatC))) := by simp [pathOf, pathC, flatC]
    obtain ⟨g1, g2, _, _⟩ := h c (by simp)
    rw [h1, h2, flatFrom]
    simp only
    rw [flat_es _ _ _ _ g1 g2]
    obtain ⟨x', y', he⟩ := flat_cl c.shut (endX c.x c.es) (endY c.y c.es) (pathOf cs)
    rw [he, flat_pathOf cs x' y' (fun d hd => h d (by simp [hd]))]
    simp [flatSeg]

theorem lns_straightE {e : Ed} (h : edOK e = true) : ∀ d ∈ lns e, d.bent = false ∧ edOK d = true := by
  intro d hd
  have ho := h
  rw [edOK_iff] at ho
  obtain ⟨i, hi, rfl⟩ := List.getElem_of_mem hd
  obtain ⟨r1, r2, r3, r4⟩ := lns_range (a := -8191) (b := 8191) h ho.1 ho.2.2.1 ho.2.2.2.2.1 ho.2.1 ho.2.2.2.1 ho.2.2.2.2.2.1 i hi
  cases hb : e.bent
  · have hl := lns_flat h hb
    have hm : (lns e)[i] = e := by
      have := List.getElem_mem hi
      simp only [hl, List.mem_singleton] at this ⊢
      simp
    rw [hm]; exact ⟨hb, h⟩
  · have hs := lns_straight e hb i hi
    refine ⟨hs, ?_⟩
    have hc : (lns e)[i].cx = 0 ∧ (lns e)[i].cy = 0 := by
      have hl := lns_yes h hb
      simp only [hl]
      simp [lnsTo]
    rw [edOK_iff]
    exact ⟨r1, r2, by omega, by omega, r3, r4, .inr hc⟩
theorem endX_app (x : Int) (a b : List Ed) : endX x (a ++ b) = endX (endX x a) b := by
  unfold endX; rw [List.getLast?_append]
  cases b.getLast? <;> simp
theorem endY_app (y : Int) (a b : List Ed) : endY y (a ++ b) = endY (endY y a) b := by
  unfold endY; rw [List.getLast?_append]
  cases b.getLast? <;> simp
theorem turnC_flatC {c : Ct} (h : ∀ e ∈ c.es, edOK e = true) (hx : endX c.x (c.es.flatMap lns) = endX c.x c.es) (hy : endY c.y (c.es.flatMap lns) = endY c.y c.es) : flatC (turnC c) = turnC (flatC c) := by
  obtain ⟨x, y, es, b⟩ := c
  simp only [flatC, turnC] at *
  rw [hx, hy, flat_map_lns es h]

theorem chain_lnsTo (e : Ed) (n : Int) : ∀ k, chain e.x0 e.y0 (lnsTo e n k) ∧ endX e.x0 (lnsTo e n k) = plcX e n k ∧ endY e.y0 (lnsTo e n k) = plcY e n k
  | 0 => ⟨trivial, rfl, rfl⟩
  | k + 1 => by
    obtain ⟨h1, h2, h3⟩ := chain_lnsTo e n k
    rw [lnsTo_snoc]
    exact ⟨chain_snoc _ _ _ _ h1 h2.symm h3.symm, endX_snoc _ _ _, endY_snoc _ _ _⟩
theorem chain_lns {e : Ed} (h : edOK e = true) : chain e.x0 e.y0 (lns e) ∧ (∀ x, endX x (lns e) = e.x1) ∧ (∀ y, endY y (lns e) = e.y1) := by
  cases hb : e.bent
  · rw [lns_flat h hb]; exact ⟨⟨rfl, rfl, trivial⟩, fun _ => rfl, fun _ => rfl⟩
  · obtain ⟨a, z, hz, h1, h2⟩ := lns_last h hb
    refine ⟨?_, fun x => by rw [hz, endX_snoc, h1], fun y => by rw [hz, endY_snoc, h2]⟩
    rw [lns_yes h hb]; exact (chain_lnsTo e _ _).1
theorem chain_app : ∀ (a b : List Ed) (x y : Int), chain x y a → chain (endX x a) (endY y a) b → chain x y (a ++ b)
  | [], _, _, _, _, h => h
  | e :: a, b, x, y, ha, hb => ⟨ha.1, ha.2.1, chain_app a b _ _ ha.2.2 (by rw [endX_cons, endY_cons] at hb; exact hb)⟩
theorem chain_flat : ∀ (es : List Ed) (x y : Int), chain x y es → (∀ e ∈ es, edOK e = true) →
    chain x y (es.flatMap lns) ∧ endX x (es.flatMap lns) = endX x es ∧ endY y (es.flatMap lns) = endY y es
  | [], _, _, _, _ => ⟨trivial, rfl, rfl⟩
  | e :: es, x, y, hc, ho => by
    obtain ⟨c1, c2, c3⟩ := chain_lns (ho e (by simp))
    obtain ⟨h1, h2, h3⟩ := chain_flat es e.x1 e.y1 hc.2.2 (fun d hd => ho d (by simp [hd]))
    rw [List.flatMap_cons]
    refine ⟨chain_app _ _ _ _ (by rw [← hc.1, ← hc.2.1]; exact c1) (by rw [c2, c3]; exact h1), ?_, ?_⟩
    · rw [endX_app, c2, h2, endX_cons]
    · rw [endY_app, c3, h3, endY_cons]
theorem GoodC.flat {c : Ct} (h : GoodC c) : GoodC (flatC c) := by
  refine ⟨(chain_flat _ _ _ h.1 h.2.1).1, fun e he => ?_, h.2.2.1, h.2.2.2⟩
  simp only [flatC, List.mem_flatMap] at he
  obtain ⟨d, hd, he⟩ := he
  exact (lns_straightE (h.2.1 d hd) e he).2
/-- Flat and turned is turned and flat. -/
theorem flat_turn {c : Ct} (h : GoodC c) : flatC (turnC c) = turnC (flatC c) :=
  turnC_flatC h.2.1 (chain_flat _ _ _ h.1 h.2.1).2.1 (chain_flat _ _ _ h.1 h.2.1).2.2

end Go.Proofs.Ytbpeoejjjllieaa
