/- A path turned round, a path moved: the same stroke, plainly. -/
import Derived.Test.YtbpgehaflbacmaaAllP
import Derived.Test.YtbpgehaflbacmaaMoveP
namespace Go.Proofs.Ytbpgehaflbacmaa

theorem flip_sq (e : Ed) : sqE (flip e) = sqE e := by unfold sqE flip; simp only; grind
theorem flip_U (e : Ed) (x y : Int) : armU (flip e) x y = sqE e - armU e x y := by unfold armU sqE flip; simp only; grind
theorem flip_K (e : Ed) (x y : Int) : armK (flip e) x y = -armK e x y := by unfold armK flip; simp only; grind
theorem flip_K2 (e : Ed) (x y : Int) : armK (flip e) x y * armK (flip e) x y = armK e x y * armK e x y := by rw [flip_K, Int.neg_mul_neg]
theorem on_flip (e : Ed) (w x y : Int) : OnP (flip e) w x y ↔ OnP e w x y := by
  unfold OnP; rw [flip_K2, flip_sq, flip_U]
  constructor <;> (intro h; omega)
theorem ahead_flip (e : Ed) (w x y : Int) : AheadP (flip e) w x y ↔ BehindP e w x y := by
  unfold AheadP BehindP; rw [flip_K2, flip_sq, flip_U]
  have e1 : (sqE e - armU e x y) * (sqE e - armU e x y) = (armU e x y - sqE e) * (armU e x y - sqE e) := by grind
  rw [e1]
  constructor <;> (intro h; omega)
theorem behind_flip (e : Ed) (w x y : Int) : BehindP (flip e) w x y ↔ AheadP e w x y := by
  unfold AheadP BehindP; rw [flip_K2, flip_sq, flip_U]
  have e1 : (sqE e - armU e x y - sqE e) * (sqE e - armU e x y - sqE e) = armU e x y * armU e x y := by grind
  rw [e1]
  constructor <;> (intro h; omega)
theorem moved_flip (e : Ed) : moved (flip e) = moved e := by
  unfold moved flip; simp only
  have : ∀ a b : Int, (a == b) = (b == a) := fun a b => by rw [Bool.eq_iff_iff]; simp; exact eq_comm
  rw [this e.x1, this e.y1]
theorem filter_turn (es : List Ed) : ((es.map flip).reverse).filter moved = ((es.filter moved).map flip).reverse := by
  rw [List.filter_reverse, List.filter_map]
  congr 2
  apply List.filter_congr
  intro e _
  exact moved_flip e
theorem backE_turn (c : Ct) (h : GoodC c) : backE (turnC c) = flip (backE c) := by
  obtain ⟨_, h2, h3⟩ := chain_turn c.es c.x c.y h.1
  have a : endX (turnC c).x (turnC c).es = c.x := h2
  have b : endY (turnC c).y (turnC c).es = c.y := h3
  show (⟨endX (turnC c).x (turnC c).es, endY (turnC c).y (turnC c).es, false, 0, 0, (turnC c).x, (turnC c).y⟩ : Ed) = ⟨c.x, c.y, false, 0, 0, endX c.x c.es, endY c.y c.es⟩
  rw [a, b]; rfl
/-- Open: the pieces the other way round; shut: the same pieces turned. -/
theorem pieces_open (c : Ct) (hs : c.shut = false) : piecesC (turnC c) = ((piecesC c).map flip).reverse := by
  unfold piecesC turnC
  simp only [hs, Bool.false_and, Bool.false_eq_true, if_false, List.append_nil]
  exact filter_turn c.es
theorem pieces_shut (c : Ct) (h : GoodC c) (_hs : c.shut = true) (e : Ed) : e ∈ piecesC (turnC c) ↔ flip e ∈ piecesC c := by
  have hb := backE_turn c h
  have hm : moved (backE (turnC c)) = moved (backE c) := by rw [hb, moved_flip]
  have hf : ∀ d : Ed, flip e = d ↔ e = flip d := fun d => ⟨fun h => by rw [← h]; rfl, fun h => by rw [h]; rfl⟩
  have h1 : e ∈ (turnC c).es.filter moved ↔ flip e ∈ c.es.filter moved := by
    show e ∈ ((c.es.map flip).reverse).filter moved ↔ _
    rw [filter_turn, List.mem_reverse, List.mem_map]
    constructor
    · rintro ⟨d, hd, rfl⟩; exact hd
    · intro hd; exact ⟨flip e, hd, rfl⟩
  unfold piecesC
  rw [List.mem_append, List.mem_append, h1, hm, hb]
  have h2 : (turnC c).shut = c.shut := rfl
  rw [h2]
  split
  · simp only [List.mem_singleton, hf]
  · simp
theorem none_at {c : Ct} (h : GoodC c) (hp : piecesC c = []) : endX c.x c.es = c.x ∧ endY c.y c.es = c.y := by
  obtain ⟨_, h2, h3⟩ := filter_chain c.es c.x c.y h.1
  have hf : c.es.filter moved = [] := by
    unfold piecesC at hp
    exact (List.append_eq_nil_iff.1 hp).1
  rw [hf] at h2 h3
  exact ⟨h2.symm, h3.symm⟩
/-- Where a shut contour's pieces end. -/
theorem shut_end {c : Ct} (h : GoodC c) (hs : c.shut = true) : endX c.x (piecesC c) = c.x ∧ endY c.y (piecesC c) = c.y := by
  obtain ⟨_, h2, h3⟩ := filter_chain c.es c.x c.y h.1
  unfold piecesC
  rw [hs, Bool.true_and]
  split
  · rw [endX_snoc, endY_snoc]; exact ⟨rfl, rfl⟩
  · rename_i hm
    rw [List.append_nil, h2, h3]
    simp only [moved, backE, Bool.or_eq_true, Bool.not_eq_true', beq_eq_false_iff_ne, ne_eq, not_or, Decidable.not_not] at hm
    exact hm
theorem shut_next {c : Ct} (h : GoodC c) (hs : c.shut = true) : ∀ e ∈ piecesC c, ∃ d ∈ piecesC c, d.x0 = e.x1 ∧ d.y0 = e.y1 := by
  intro e he
  obtain ⟨k, hk, rfl⟩ := List.getElem_of_mem he
  by_cases hl : k + 1 < (piecesC c).length
  · exact ⟨_, List.getElem_mem hl, pieces_joined h k hl⟩
  · have h0 : 0 < (piecesC c).length := by omega
    obtain ⟨a, b⟩ := shut_end h hs
    have hk2 : k = (piecesC c).length - 1 := by omega
    rw [endX_get _ _ (by omega)] at a
    rw [endY_get _ _ (by omega)] at b
    obtain ⟨p, q⟩ := chain_at2 _ _ _ 0 h0 (pieces_chain h)
    refine ⟨_, List.getElem_mem h0, ?_⟩
    subst hk2
    exact ⟨by rw [p, a]; rfl, by rw [q, b]; rfl⟩
theorem shut_prev {c : Ct} (h : GoodC c) (hs : c.shut = true) : ∀ e ∈ piecesC c, ∃ d ∈ piecesC c, d.x1 = e.x0 ∧ d.y1 = e.y0 := by
  intro e he
  obtain ⟨k, hk, rfl⟩ := List.getElem_of_mem he
  cases k with
  | succ k =>
    obtain ⟨p, q⟩ := pieces_joined h k hk
    exact ⟨_, List.getElem_mem (Nat.lt_of_succ_lt hk), p.symm, q.symm⟩
  | zero =>
    obtain ⟨a, b⟩ := shut_end h hs
    rw [endX_get _ _ (by omega)] at a
    rw [endY_get _ _ (by omega)] at b
    obtain ⟨p, q⟩ := chain_at2 _ _ _ 0 hk (pieces_chain h)
    exact ⟨_, List.getElem_mem (show (piecesC c).length - 1 < (piecesC c).length by omega), by rw [a, p]; rfl, by rw [b, q]; rfl⟩
/-- What a shut contour covers. -/
theorem cov_shut {c : Ct} (hs : c.shut = true) (s : Sy) (x y : Int) : CovC c s x y ↔ (piecesC c = [] ∧ DotP c s x y) ∨ ∃ e ∈ piecesC c, OnP e s.wide x y ∨ (s.join = 1 ∧ DiscP e.x0 e.y0 s.wide x y) := by
  unfold CovC CovAt
  rw [hs]
  constructor
  · rintro (⟨a, _, b⟩ | ⟨i, hi, h⟩)
    · exact .inl ⟨a, b⟩
    · refine .inr ⟨_, List.getElem_mem hi, ?_⟩
      rcases h with h | ⟨_, h, _⟩ | ⟨_, h, _⟩ | ⟨h, d⟩ | ⟨⟨_, h, _⟩, _⟩
      · exact .inl h
      · cases h
      · cases h
      · rcases h with ⟨_, h, _⟩ | ⟨_, h⟩
        · cases h
        · exact .inr ⟨h, d⟩
      · cases h
  · rintro (⟨a, b⟩ | ⟨e, he, h⟩)
    · exact .inl ⟨a, .inr rfl, b⟩
    · obtain ⟨i, hi, rfl⟩ := List.getElem_of_mem he
      refine .inr ⟨i, hi, ?_⟩
      rcases h with h | ⟨h, d⟩
      · exact .inl h
      · exact .inr (.inr (.inr (.inl ⟨.inr ⟨by simp, h⟩, d⟩)))
theorem turn_shut {c : Ct} (h : GoodC c) (hs : c.shut = true) (s : Sy) (x y : Int) (hc : CovC (turnC c) s x y) : CovC c s x y := by
  rw [cov_shut (c := turnC c) hs] at hc
  rw [cov_shut hs]
  have hmem := pieces_shut c h hs
  rcases hc with ⟨a, b⟩ | ⟨e, he, hc⟩
  · left
    have hp : piecesC c = [] := by
      rw [List.eq_nil_iff_forall_not_mem]
      intro e he
      have : flip e ∈ piecesC (turnC c) := (hmem (flip e)).2 he
      rw [a] at this; simp at this
    obtain ⟨p, q⟩ := none_at h hp
    refine ⟨hp, ?_⟩
    unfold DotP at *
    have e1 : (turnC c).x = c.x := p
    have e2 : (turnC c).y = c.y := q
    rwa [e1, e2] at b
  · right
    have he2 := (hmem e).1 he
    rcases hc with hc | ⟨hj, hd⟩
    · exact ⟨flip e, he2, .inl ((on_flip e _ _ _).2 hc)⟩
    · obtain ⟨d, hdm, p, q⟩ := shut_next h hs (flip e) he2
      refine ⟨d, hdm, .inr ⟨hj, ?_⟩⟩
      rw [p, q]; exact hd
theorem turn_open {c : Ct} (h : GoodC c) (hs : c.shut = false) (s : Sy) (x y : Int) (hc : CovC (turnC c) s x y) : CovC c s x y := by
  have hpo := pieces_open c hs
  have hj := pieces_joined h
  unfold CovC at *
  rcases hc with ⟨a, b, d⟩ | ⟨i, hi, hc⟩
  · left
    have hp : piecesC c = [] := by
      rw [hpo, List.reverse_eq_nil_iff, List.map_eq_nil_iff] at a; exact a
    obtain ⟨p, q⟩ := none_at h hp
    refine ⟨hp, ?_, ?_⟩
    · rcases b with b | b
      · left; simpa [turnC] using b
      · right; exact b
    · unfold DotP at *
      have e1 : (turnC c).x = c.x := p
      have e2 : (turnC c).y = c.y := q
      rwa [e1, e2] at d
  · right
    have hlen : (piecesC (turnC c)).length = (piecesC c).length := by rw [hpo]; simp
    have hi2 : i < (piecesC c).length := by omega
    have hk : (piecesC c).length - 1 - i < (piecesC c).length := by omega
    have hget : (piecesC (turnC c))[i] = flip (piecesC c)[(piecesC c).length - 1 - i] := by
      have : (piecesC (turnC c))[i]? = some (flip (piecesC c)[(piecesC c).length - 1 - i]) := by
        rw [hpo, List.getElem?_reverse (by simpa using hi2), List.length_map, List.getElem?_map, List.getElem?_eq_getElem hk]; rfl
      rw [List.getElem?_eq_getElem hi] at this
      exact Option.some.inj this
    have hsh : (turnC c).shut = false := hs
    unfold CovAt at hc
    rw [hget, hsh, hlen] at hc
    rcases hc with hc | ⟨a, _, b, d⟩ | ⟨a, _, b, d⟩ | ⟨a, d⟩ | ⟨⟨a, _, b⟩, d⟩
    · exact ⟨_, hk, .inl ((on_flip _ _ _ _).1 hc)⟩
    · refine ⟨_, hk, .inr (.inr (.inl ⟨by omega, hs, b, (ahead_flip _ _ _ _).1 d⟩))⟩
    · refine ⟨_, hk, .inr (.inl ⟨by omega, hs, b, (behind_flip _ _ _ _).1 d⟩)⟩
    · rcases a with ⟨a, _, b⟩ | ⟨a, b⟩
      · exact ⟨_, hk, .inr (.inr (.inr (.inr ⟨⟨by omega, hs, b⟩, d⟩)))⟩
      · have hi0 : i ≠ 0 := fun h => a ⟨h, rfl⟩
        obtain ⟨p, q⟩ := hj ((piecesC c).length - 1 - i) (by omega)
        refine ⟨(piecesC c).length - 1 - i + 1, by omega, .inr (.inr (.inr (.inl ⟨.inr ⟨by omega, b⟩, ?_⟩)))⟩
        rw [p, q]; exact d
    · refine ⟨_, hk, .inr (.inr (.inr (.inl ⟨.inl ⟨by omega, hs, b⟩, d⟩)))⟩
theorem turn_cov {c : Ct} (h : GoodC c) (s : Sy) (x y : Int) : CovC (turnC c) s x y ↔ CovC c s x y := by
  have one : ∀ {d : Ct}, GoodC d → CovC (turnC d) s x y → CovC d s x y := fun {d} hd hc => by
    cases hs : d.shut
    · exact turn_open hd hs s x y hc
    · exact turn_shut hd hs s x y hc
  refine ⟨one h, fun hc => one h.turn ?_⟩
  rw [turn_turn h]; exact hc
theorem back_cov {l : List Sg} (hm : mayB l = true) (s : Sy) (x y : Int) : covL (backL l) s x y = covL l s x y := by
  rw [Bool.eq_iff_iff, covL_iff, covL_iff, ctsL_back hm]
  constructor
  · rintro ⟨d, hd, hc⟩
    obtain ⟨c, hcm, rfl⟩ := List.mem_map.1 hd
    exact ⟨c, hcm, (turn_cov (ctsL_good l c hcm) s x y).1 hc⟩
  · rintro ⟨c, hcm, hc⟩
    exact ⟨turnC c, List.mem_map.2 ⟨c, hcm, rfl⟩, (turn_cov (ctsL_good l c hcm) s x y).2 hc⟩

section
variable (dx dy : Int)
theorem sh_dif (e : Ed) : (shE (· + dx) (· + dy) e).x1 - (shE (· + dx) (· + dy) e).x0 = e.x1 - e.x0 ∧ (shE (· + dx) (· + dy) e).y1 - (shE (· + dx) (· + dy) e).y0 = e.y1 - e.y0 := by
  unfold shE; simp only; omega
theorem sh_sq (e : Ed) : sqE (shE (· + dx) (· + dy) e) = sqE e := by
  obtain ⟨a, b⟩ := sh_dif dx dy e
  unfold sqE; rw [a, b]
theorem sh_arm (e : Ed) (x y : Int) : armU (shE (· + dx) (· + dy) e) (x + dx) (y + dy) = armU e x y ∧ armK (shE (· + dx) (· + dy) e) (x + dx) (y + dy) = armK e x y := by
  obtain ⟨a, b⟩ := sh_dif dx dy e
  have c : x + dx - (shE (· + dx) (· + dy) e).x0 = x - e.x0 := by unfold shE; simp only; omega
  have d : y + dy - (shE (· + dx) (· + dy) e).y0 = y - e.y0 := by unfold shE; simp only; omega
  unfold armU armK; rw [a, b, c, d]; exact ⟨rfl, rfl⟩
theorem sh_disc (a b w x y : Int) : DiscP (a + dx) (b + dy) w (x + dx) (y + dy) ↔ DiscP a b w x y := by
  have c : x + dx - (a + dx) = x - a := by omega
  have d : y + dy - (b + dy) = y - b := by omega
  unfold DiscP; rw [c, d]
theorem sh_square (a b w x y : Int) : SquareP (a + dx) (b + dy) w (x + dx) (y + dy) ↔ SquareP a b w x y := by
  have c : x + dx - (a + dx) = x - a := by omega
  have d : y + dy - (b + dy) = y - b := by omega
  unfold SquareP; rw [c, d]
theorem moved_sh (e : Ed) : moved (shE (· + dx) (· + dy) e) = moved e := by
  unfold moved shE; simp only
  have : ∀ a b d : Int, (a + d == b + d) = (a == b) := fun a b d => by rw [Bool.eq_iff_iff]; simp
  rw [this, this]
theorem pieces_sh (c : Ct) : piecesC (shC (· + dx) (· + dy) c) = (piecesC c).map (shE (· + dx) (· + dy)) := by
  have hb : backE (shC (· + dx) (· + dy) c) = shE (· + dx) (· + dy) (backE c) := by
    have a : endX (shC (· + dx) (· + dy) c).x (shC (· + dx) (· + dy) c).es = endX c.x c.es + dx := endX_sh (· + dx) (· + dy) c.x c.es
    have b : endY (shC (· + dx) (· + dy) c).y (shC (· + dx) (· + dy) c).es = endY c.y c.es + dy := endY_sh (· + dx) (· + dy) c.y c.es
    show (⟨endX (shC (· + dx) (· + dy) c).x (shC (· + dx) (· + dy) c).es, endY (shC (· + dx) (· + dy) c).y (shC (· + dx) (· + dy) c).es, false, 0, 0, c.x + dx, c.y + dy⟩ : Ed) = ⟨endX c.x c.es + dx, endY c.y c.es + dy, false, 0, 0, c.x + dx, c.y + dy⟩
    rw [a, b]
  have hf : (c.es.map (shE (· + dx) (· + dy))).filter moved = (c.es.filter moved).map (shE (· + dx) (· + dy)) := by
    rw [List.filter_map]
    congr 1
    apply List.filter_congr
    intro e _
    exact moved_sh dx dy e
  unfold piecesC
  rw [hb, moved_sh, List.map_append]
  have h1 : (shC (· + dx) (· + dy) c).es = c.es.map (shE (· + dx) (· + dy)) := rfl
  have h2 : (shC (· + dx) (· + dy) c).shut = c.shut := rfl
  rw [h1, h2, hf]
  split <;> rfl
theorem covAt_sh (shut : Bool) (s : Sy) (ps : List Ed) (i : Nat) (e : Ed) (x y : Int) :
    CovAt shut s (ps.map (shE (· + dx) (· + dy))) i (shE (· + dx) (· + dy) e) (x + dx) (y + dy) ↔ CovAt shut s ps i e x y := by
  obtain ⟨a, b⟩ := sh_arm dx dy e x y
  have c : ∀ v, DiscP (shE (· + dx) (· + dy) e).x0 (shE (· + dx) (· + dy) e).y0 v (x + dx) (y + dy) ↔ DiscP e.x0 e.y0 v x y := fun v => sh_disc dx dy _ _ v x y
  have d : ∀ v, DiscP (shE (· + dx) (· + dy) e).x1 (shE (· + dx) (· + dy) e).y1 v (x + dx) (y + dy) ↔ DiscP e.x1 e.y1 v x y := fun v => sh_disc dx dy _ _ v x y
  unfold CovAt OnP AheadP BehindP
  rw [a, b, sh_sq, c, d, List.length_map]
theorem covC_sh (c : Ct) (s : Sy) (x y : Int) : CovC (shC (· + dx) (· + dy) c) s (x + dx) (y + dy) ↔ CovC c s x y := by
  unfold CovC
  rw [pieces_sh]
  have h1 : (shC (· + dx) (· + dy) c).es.length = c.es.length := by simp [shC]
  have h2 : (shC (· + dx) (· + dy) c).shut = c.shut := rfl
  have h3 : DotP (shC (· + dx) (· + dy) c) s (x + dx) (y + dy) ↔ DotP c s x y := by
    unfold DotP
    have a : ∀ v, DiscP (shC (· + dx) (· + dy) c).x (shC (· + dx) (· + dy) c).y v (x + dx) (y + dy) ↔ DiscP c.x c.y v x y := fun v => sh_disc dx dy _ _ v x y
    have b : ∀ v, SquareP (shC (· + dx) (· + dy) c).x (shC (· + dx) (· + dy) c).y v (x + dx) (y + dy) ↔ SquareP c.x c.y v x y := fun v => sh_square dx dy _ _ v x y
    rw [a, b]
  rw [h1, h2, h3, List.map_eq_nil_iff]
  constructor
  · rintro (h | ⟨i, hi, h⟩)
    · exact .inl h
    · have hi2 : i < (piecesC c).length := by simpa using hi
      rw [List.getElem_map, covAt_sh] at h
      exact .inr ⟨i, hi2, h⟩
  · rintro (h | ⟨i, hi, h⟩)
    · exact .inl h
    · refine .inr ⟨i, by simpa using hi, ?_⟩
      rw [List.getElem_map, covAt_sh]; exact h
end
theorem move_cov {l : List Sg} (hl : MadeOK l false) {dx dy : Int} (hx : -1500 ≤ dx ∧ dx < 1500) (hy : -1500 ≤ dy ∧ dy < 1500) :
    ∃ m, shiftL (ad dx) (ad dy) l = (m, 0) ∧ m.length = l.length ∧ mayB m = true ∧ (∀ s ∈ m, s.kind ≠ 3) ∧ ∀ s x y, covL m s (x + dx) (y + dy) = covL l s x y := by
  have hmay := hl.may
  have hsm := hl.2.2.1
  have hkk := hl.2.2.2 rfl
  have hT : l.map (shS (ad dx) (ad dy)) = l.map (shS (· + dx) (· + dy)) := List.map_congr_left fun s hs => by
    obtain ⟨a1, a2, a3, a4⟩ := hsm s hs
    exact sh_small (by omega) (by omega) (by omega) (by omega) (by omega) (by omega)
  have hb : ∀ s ∈ l, (-2100 ≤ (shS (· + dx) (· + dy) s).x ∧ (shS (· + dx) (· + dy) s).x ≤ 2300) ∧ (-2100 ≤ (shS (· + dx) (· + dy) s).y ∧ (shS (· + dx) (· + dy) s).y ≤ 2300) ∧
      (-2100 ≤ (shS (· + dx) (· + dy) s).cx ∧ (shS (· + dx) (· + dy) s).cx ≤ 2300) ∧ (-2100 ≤ (shS (· + dx) (· + dy) s).cy ∧ (shS (· + dx) (· + dy) s).cy ≤ 2300) := fun s hs => by
    obtain ⟨a1, a2, a3, a4⟩ := hsm s hs
    unfold shS
    by_cases k4 : s.kind = 4
    · rw [if_pos k4]; omega
    · rw [if_neg k4]
      by_cases k3 : s.kind = 3
      · simp only [if_pos k3]; omega
      · simp only [if_neg k3]; omega
  have ho : (l.map (shS (· + dx) (· + dy))).all okS = true := by
    rw [List.all_eq_true]
    intro t ht
    obtain ⟨s, hs, rfl⟩ := List.mem_map.1 ht
    have := hb s hs
    exact okS_small (by omega)
  refine ⟨l.map (shS (· + dx) (· + dy)), ?_, by simp, may_sh hmay ho, ?_, fun s x y => ?_⟩
  · rw [← hT]; exact shiftL_all hmay (by rw [hT]; exact ho)
  · intro t ht
    obtain ⟨s, hs, rfl⟩ := List.mem_map.1 ht
    rw [shS_kind]; exact hkk s hs
  · rw [Bool.eq_iff_iff, covL_iff, covL_iff, ctsL_sh hmay ho]
    constructor
    · rintro ⟨d, hd, hc⟩
      obtain ⟨c, hcm, rfl⟩ := List.mem_map.1 hd
      exact ⟨c, hcm, (covC_sh dx dy c s x y).1 hc⟩
    · rintro ⟨c, hcm, hc⟩
      exact ⟨_, List.mem_map.2 ⟨c, hcm, rfl⟩, (covC_sh dx dy c s x y).2 hc⟩
theorem back_nobow {l : List Sg} (_hm : mayB l = true) (hb : ∀ s ∈ l, s.kind ≠ 3) : ∀ s ∈ backL l, s.kind ≠ 3 := by
  have hst := ctsL_straight hb
  intro s hs
  unfold backL pathOf at hs
  rw [List.mem_flatMap] at hs
  obtain ⟨d, hd, hs⟩ := hs
  obtain ⟨c, hc, rfl⟩ := List.mem_map.1 hd
  rw [pathC_turn, List.mem_cons, List.mem_append] at hs
  rcases hs with rfl | hs | hs
  · simp
  · obtain ⟨e, he, rfl⟩ := List.mem_map.1 hs
    rw [List.mem_reverse, List.mem_map] at he
    obtain ⟨e', he', rfl⟩ := he
    have := hst c hc e' he'
    have hfb : (flip e').bent = false := this
    unfold sgE; rw [hfb]; simp
  · unfold clL at hs
    split at hs
    · rw [List.mem_singleton] at hs; subst hs; simp
    · simp at hs
end Go.Proofs.Ytbpgehaflbacmaa
