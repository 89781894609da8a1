/- A stroke is that of its pieces: plainly. -/
import Derived.Test.YtbpgehaflbacmaaStrokeBackP
import Derived.Test.YtbpgehaflbacmaaAllP
namespace Go.Proofs.Ytbpgehaflbacmaa

theorem still_at {e : Ed} (h : moved e = false) : e.x0 = e.x1 ∧ e.y0 = e.y1 := by simpa [moved] using h
/-- A contour's edges, with the one that closes it. -/
def allE (c : Ct) : List Ed := c.es ++ (if c.shut then [backE c] else [])
/-- One of them, stroked by itself. -/
def oneOf (e : Ed) : List Sg := oneL e.x0 e.y0 e.x1 e.y1
theorem pieces_sub {c : Ct} (e : Ed) : e ∈ piecesC c ↔ e ∈ allE c ∧ moved e = true := by
  unfold piecesC allE
  rw [List.mem_append, List.mem_append, List.mem_filter]
  by_cases hs : c.shut = true
  · rw [hs, Bool.true_and, if_pos rfl]
    by_cases hm : moved (backE c) = true
    · rw [if_pos hm, List.mem_singleton]
      constructor
      · rintro (⟨a, b⟩ | rfl)
        · exact ⟨.inl a, b⟩
        · exact ⟨.inr rfl, hm⟩
      · rintro ⟨a | a, b⟩
        · exact .inl ⟨a, b⟩
        · exact .inr a
    · rw [if_neg hm, List.mem_singleton]
      constructor
      · rintro (⟨a, b⟩ | h)
        · exact ⟨.inl a, b⟩
        · simp at h
      · rintro ⟨a | rfl, b⟩
        · exact .inl ⟨a, b⟩
        · exact absurd b hm
  · have hf : c.shut = false := by cases h : c.shut; rfl; exact absurd h hs
    rw [hf]; simp
/-- Styles with round ends and corners, or with neither. -/
def Even (s : Sy) : Prop := (s.cap = 1 ∧ s.join = 1) ∨ (s.cap = 0 ∧ s.join = 0)
theorem oneE_of {e : Ed} (h : edOK e = true) (hb : e.bent = false) : oneE e.x0 e.y0 e.x1 e.y1 = e := by
  obtain ⟨_, _, _, _, _, _, h7⟩ := edOK_iff.1 h
  have := h7.resolve_left (by rw [hb]; simp)
  obtain ⟨a, b, c, d, f, g, i⟩ := e
  simp only at hb this
  obtain ⟨rfl, rfl⟩ := this
  subst hb
  rfl
theorem one_of {e : Ed} (h : edOK e = true) (hb : e.bent = false) {s : Sy} (hs : Even s) (x y : Int) :
    covL (oneOf e) s x y = true ↔ (moved e = true ∧ OnP e s.wide x y) ∨ (s.cap = 1 ∧ DiscP e.x0 e.y0 s.wide x y) ∨ (s.cap = 1 ∧ DiscP e.x1 e.y1 s.wide x y) := by
  obtain ⟨h0, h1, _, _, h4, h5, _⟩ := edOK_iff.1 h
  have c0 : co e.x0 = true := co_iff.2 h0
  have c1 : co e.y0 = true := co_iff.2 h1
  have c4 : co e.x1 = true := co_iff.2 h4
  have c5 : co e.y1 = true := co_iff.2 h5
  have hcap : s.cap ≠ 2 := by rcases hs with h | h <;> omega
  unfold oneOf
  by_cases hne : e.x0 = e.x1 ∧ e.y0 = e.y1
  · have hm : moved e = false := by simp [moved, hne.1, hne.2]
    rw [← hne.1, ← hne.2, one_dot c0 c1, hm]
    constructor
    · rintro (h | h)
      · exact .inr (.inl h)
      · exact absurd h.1 hcap
    · rintro (h | h | h)
      · cases h.1
      · exact .inl h
      · exact .inl h
  · have hm : moved e = true := by
      simp only [moved, Bool.or_eq_true, Bool.not_eq_true', beq_eq_false_iff_ne, ne_eq]
      by_cases h1 : e.x0 = e.x1
      · exact .inr fun h2 => hne ⟨h1, h2⟩
      · exact .inl h1
    rw [one_cov c0 c1 c4 c5 hne, hm]
    unfold OneP
    rw [oneE_of h hb]
    constructor
    · rintro (h | h | h | h | h)
      · exact .inl ⟨rfl, h⟩
      · exact absurd h.1 hcap
      · exact absurd h.1 hcap
      · exact .inr (.inl h)
      · exact .inr (.inr h)
    · rintro (h | h | h)
      · exact .inl h.2
      · exact .inr (.inr (.inr (.inl h)))
      · exact .inr (.inr (.inr (.inr h)))
/-- Where a contour goes, a piece begins or ends. -/
theorem at_piece {c : Ct} (h : GoodC c) (_hne : piecesC c ≠ []) : ∀ e ∈ allE c, ((e.x0 = c.x ∧ e.y0 = c.y) ∨ ∃ d ∈ piecesC c, e.x0 = d.x1 ∧ e.y0 = d.y1) ∧ ((e.x1 = c.x ∧ e.y1 = c.y) ∨ ∃ d ∈ piecesC c, e.x1 = d.x1 ∧ e.y1 = d.y1) := by
  have hsub : ∀ d ∈ c.es.filter moved, d ∈ piecesC c := fun d hd => by unfold piecesC; exact List.mem_append_left _ hd
  have key : ∀ (es : List Ed) (x y : Int), chain x y es → (∀ e ∈ es, ((e.x0 = x ∧ e.y0 = y) ∨ ∃ d ∈ es.filter moved, e.x0 = d.x1 ∧ e.y0 = d.y1) ∧ ((e.x1 = x ∧ e.y1 = y) ∨ ∃ d ∈ es.filter moved, e.x1 = d.x1 ∧ e.y1 = d.y1)) ∧
      ((endX x es = x ∧ endY y es = y) ∨ ∃ d ∈ es.filter moved, endX x es = d.x1 ∧ endY y es = d.y1) := by
    intro es
    induction es with
    | nil => intro x y _; exact ⟨fun e he => by simp at he, .inl ⟨rfl, rfl⟩⟩
    | cons e es ih =>
      intro x y hc
      obtain ⟨hx, hy, hc2⟩ : e.x0 = x ∧ e.y0 = y ∧ chain e.x1 e.y1 es := hc
      obtain ⟨i1, i2⟩ := ih e.x1 e.y1 hc2
      have lift : ∀ a b : Int, ((a = e.x1 ∧ b = e.y1) ∨ ∃ d ∈ es.filter moved, a = d.x1 ∧ b = d.y1) → ((a = x ∧ b = y) ∨ ∃ d ∈ (e :: es).filter moved, a = d.x1 ∧ b = d.y1) := by
        rintro a b (⟨p, q⟩ | ⟨d, hd, p, q⟩)
        · by_cases hm : moved e = true
          · exact .inr ⟨e, by rw [List.filter_cons_of_pos hm]; simp, p, q⟩
          · have : e.x0 = e.x1 ∧ e.y0 = e.y1 := by simpa [moved] using hm
            left; omega
        · refine .inr ⟨d, ?_, p, q⟩
          by_cases hm : moved e = true
          · rw [List.filter_cons_of_pos hm]; exact List.mem_cons_of_mem _ hd
          · rw [List.filter_cons_of_neg hm]; exact hd
      refine ⟨fun d hd => ?_, by rw [endX_cons, endY_cons]; exact lift _ _ i2⟩
      rcases List.mem_cons.1 hd with rfl | hd
      · exact ⟨.inl ⟨hx, hy⟩, lift _ _ (.inl ⟨rfl, rfl⟩)⟩
      · exact ⟨lift _ _ (i1 d hd).1, lift _ _ (i1 d hd).2⟩
  obtain ⟨k1, k2⟩ := key c.es c.x c.y h.1
  intro e he
  unfold allE at he
  rw [List.mem_append] at he
  rcases he with he | he
  · obtain ⟨a, b⟩ := k1 e he
    exact ⟨a.imp id (fun ⟨d, hd, r⟩ => ⟨d, hsub d hd, r⟩), b.imp id (fun ⟨d, hd, r⟩ => ⟨d, hsub d hd, r⟩)⟩
  · split at he
    · rw [List.mem_singleton] at he; subst he
      exact ⟨k2.imp id (fun ⟨d, hd, r⟩ => ⟨d, hsub d hd, r⟩), .inl ⟨rfl, rfl⟩⟩
    · simp at he
theorem disc_begin {c : Ct} (h : GoodC c) (hne : piecesC c ≠ []) {s : Sy} (hs : Even s) (hc1 : s.cap = 1) {x y : Int} (hd : DiscP c.x c.y s.wide x y) : CovC c s x y := by
  have h0 : 0 < (piecesC c).length := List.length_pos_iff.2 hne
  obtain ⟨p, q⟩ := chain_at2 _ _ _ 0 h0 (pieces_chain h)
  have hj : s.join = 1 := by rcases hs with h | h <;> omega
  refine .inr ⟨0, h0, .inr (.inr (.inr (.inl ⟨?_, ?_⟩)))⟩
  · cases hsh : c.shut
    · exact .inl ⟨rfl, rfl, hc1⟩
    · exact .inr ⟨by simp, hj⟩
  · rw [p, q]; exact hd
theorem disc_end {c : Ct} (h : GoodC c) {s : Sy} (hs : Even s) (hc1 : s.cap = 1) {d : Ed} (hdm : d ∈ piecesC c) {x y : Int} (hd : DiscP d.x1 d.y1 s.wide x y) : CovC c s x y := by
  have hj : s.join = 1 := by rcases hs with h | h <;> omega
  obtain ⟨k, hk, rfl⟩ := List.getElem_of_mem hdm
  by_cases hl : k + 1 < (piecesC c).length
  · obtain ⟨p, q⟩ := pieces_joined h k hl
    refine .inr ⟨k + 1, hl, .inr (.inr (.inr (.inl ⟨.inr ⟨by omega, hj⟩, ?_⟩)))⟩
    rw [p, q]; exact hd
  · cases hsh : c.shut
    · exact .inr ⟨k, hk, .inr (.inr (.inr (.inr ⟨⟨by omega, hsh, hc1⟩, hd⟩)))⟩
    · obtain ⟨d, hdm2, p, q⟩ := shut_next h hsh _ hdm
      rw [cov_shut hsh]
      exact .inr ⟨d, hdm2, .inr ⟨hj, by rw [p, q]; exact hd⟩⟩
theorem allE_ok {c : Ct} (h : GoodC c) (hb : ∀ e ∈ c.es, e.bent = false) : ∀ e ∈ allE c, edOK e = true ∧ e.bent = false := by
  intro e he
  unfold allE at he
  rw [List.mem_append] at he
  rcases he with he | he
  · exact ⟨h.2.1 e he, hb e he⟩
  · split at he
    · rw [List.mem_singleton] at he; subst he
      obtain ⟨a, b⟩ := end_co h.2.1 h.2.2.1 h.2.2.2
      refine ⟨?_, rfl⟩
      have c0 : co 0 = true := by decide
      unfold edOK nearB backE
      simp [a, b, h.2.2.1, h.2.2.2, c0]
    · simp at he
/-- A contour's stroke is that of its edges. -/
theorem cov_edges {c : Ct} (h : GoodC c) (hb : ∀ e ∈ c.es, e.bent = false) {s : Sy} (hs : Even s) (x y : Int) : CovC c s x y ↔ ∃ e ∈ allE c, covL (oneOf e) s x y = true := by
  have hcap : s.cap ≠ 2 := by rcases hs with h | h <;> omega
  have hcj : s.join = 1 → s.cap = 1 := fun hj => by rcases hs with h | h <;> omega
  have hok := allE_ok h hb
  constructor
  · rintro (⟨hp, hd, hc⟩ | ⟨i, hi, hc⟩)
    · have hc1 : s.cap = 1 ∧ DiscP c.x c.y s.wide x y := by
        rcases hc with hc | hc
        · exact hc
        · exact absurd hc.1 hcap
      obtain ⟨n1, n2⟩ := none_at h hp
      have hex : ∃ e ∈ allE c, e.x0 = c.x ∧ e.y0 = c.y := by
        cases hes : c.es with
        | nil =>
          have hsh : c.shut = true := by rw [hes] at hd; simpa using hd
          refine ⟨backE c, by unfold allE; rw [hsh]; simp, ?_⟩
          exact ⟨n1, n2⟩
        | cons e es =>
          have hch := h.1
          rw [hes] at hch
          exact ⟨e, by unfold allE; rw [hes]; simp, hch.1, hch.2.1⟩
      obtain ⟨e, he, p, q⟩ := hex
      refine ⟨e, he, (one_of (hok e he).1 (hok e he).2 hs x y).2 (.inr (.inl ⟨hc1.1, ?_⟩))⟩
      rw [p, q]; exact hc1.2
    · have hm := (pieces_sub _).1 (List.getElem_mem hi)
      refine ⟨_, hm.1, (one_of (hok _ hm.1).1 (hok _ hm.1).2 hs x y).2 ?_⟩
      rcases hc with hc | ⟨_, _, hc, _⟩ | ⟨_, _, hc, _⟩ | ⟨hc, hd⟩ | ⟨⟨_, _, hc⟩, hd⟩
      · exact .inl ⟨hm.2, hc⟩
      · exact absurd hc hcap
      · exact absurd hc hcap
      · refine .inr (.inl ⟨?_, hd⟩)
        rcases hc with ⟨_, _, hc⟩ | ⟨_, hc⟩
        · exact hc
        · exact hcj hc
      · exact .inr (.inr ⟨hc, hd⟩)
  · rintro ⟨e, he, hc⟩
    rw [one_of (hok e he).1 (hok e he).2 hs] at hc
    by_cases hp : piecesC c = []
    · left
      obtain ⟨n1, n2⟩ := none_at h hp
      have hmv : moved e = false := by
        cases hm : moved e
        · rfl
        · have := (pieces_sub e).2 ⟨he, hm⟩
          rw [hp] at this; simp at this
      have hest : 0 < c.es.length ∨ c.shut = true := by
        unfold allE at he
        rw [List.mem_append] at he
        rcases he with he | he
        · exact .inl (List.length_pos_of_mem he)
        · split at he
          · rename_i hh; exact .inr hh
          · simp at he
      have hat : e.x0 = c.x ∧ e.y0 = c.y := by
        have hfil : ∀ d ∈ c.es, moved d = false := fun d hd => by
          cases hm : moved d
          · rfl
          · have := (pieces_sub d).2 ⟨by unfold allE; exact List.mem_append_left _ hd, hm⟩
            rw [hp] at this; simp at this
        unfold allE at he
        rw [List.mem_append] at he
        rcases he with he | he
        · have key : ∀ (es : List Ed) (x y : Int), chain x y es → (∀ d ∈ es, moved d = false) → ∀ d ∈ es, d.x0 = x ∧ d.y0 = y := by
            intro es
            induction es with
            | nil => intro x y _ _ d hd; simp at hd
            | cons f es ih =>
              intro x y hc hm d hd
              obtain ⟨hx, hy, hc2⟩ : f.x0 = x ∧ f.y0 = y ∧ chain f.x1 f.y1 es := hc
              have hf := still_at (hm f (by simp))
              rcases List.mem_cons.1 hd with rfl | hd
              · exact ⟨hx, hy⟩
              · have := ih f.x1 f.y1 hc2 (fun d hd => hm d (by simp [hd])) d hd
                omega
          exact key c.es c.x c.y h.1 hfil e he
        · split at he
          · rw [List.mem_singleton] at he; subst he; exact ⟨n1, n2⟩
          · simp at he
      have hst := still_at hmv
      refine ⟨hp, hest, ?_⟩
      rcases hc with ⟨a, _⟩ | ⟨a, b⟩ | ⟨a, b⟩
      · rw [hmv] at a; cases a
      · left; rw [hat.1, hat.2] at b; exact ⟨a, b⟩
      · left; rw [← hst.1, ← hst.2, hat.1, hat.2] at b; exact ⟨a, b⟩
    · obtain ⟨ha, hz⟩ := at_piece h hp e he
      rcases hc with ⟨a, b⟩ | ⟨a, b⟩ | ⟨a, b⟩
      · obtain ⟨i, hi, rfl⟩ := List.getElem_of_mem ((pieces_sub e).2 ⟨he, a⟩)
        exact .inr ⟨i, hi, .inl b⟩
      · rcases ha with ⟨p, q⟩ | ⟨d, hd, p, q⟩
        · exact disc_begin h hp hs a (by rw [← p, ← q]; exact b)
        · exact disc_end h hs a hd (by rw [← p, ← q]; exact b)
      · rcases hz with ⟨p, q⟩ | ⟨d, hd, p, q⟩
        · exact disc_begin h hp hs a (by rw [← p, ← q]; exact b)
        · exact disc_end h hs a hd (by rw [← p, ← q]; exact b)
end Go.Proofs.Ytbpgehaflbacmaa
