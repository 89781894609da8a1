/- The plain law of PathMoves. -/
import Derived.Test.YtbpgehaflbacmaaShift
import Derived.Test.YtbpgehaflbacmaaAllP
namespace Go.Proofs.Ytbpgehaflbacmaa
open Go.RowKit

theorem ad_small {d v : Int} (hd : -20000 ≤ d ∧ d ≤ 20000) (hv : -20000 ≤ v ∧ v ≤ 20000) : ad d v = v + d := by
  unfold ad; exact IntWalk.wrap64_in _ (by omega)
/-- An edge moved. -/
def shE (f g : Int → Int) (e : Ed) : Ed := ⟨f e.x0, g e.y0, e.bent, if e.bent then f e.cx else e.cx, if e.bent then g e.cy else e.cy, f e.x1, g e.y1⟩
def shC (f g : Int → Int) (c : Ct) : Ct := ⟨f c.x, g c.y, c.es.map (shE f g), c.shut⟩
def shB (dx dy : Int) (b : Bx) : Bx := ⟨b.x0 + dx, b.y0 + dy, b.x1 + dx, b.y1 + dy⟩

theorem modLast_map {α β : Type} (F : α → β) (p : α → α) (q : β → β) (h : ∀ a, F (p a) = q (F a)) : ∀ l : List α, (modLast p l).map F = modLast q (l.map F)
  | [] => rfl
  | [a] => by simp [modLast, h]
  | a :: b :: l => by
    have := modLast_map F p q h (b :: l)
    simp only [modLast, List.map_cons] at *
    rw [this]
theorem shS_kind (f g : Int → Int) (s : Sg) : (shS f g s).kind = s.kind := by unfold shS; split <;> rfl
theorem fold_sh (f g : Int → Int) : ∀ (l : List Sg) (last : Int) (st st' : List Ct × Int × Int), mayFrom last l = true → (st.1 = [] → last = 0) → st'.1 = st.1.map (shC f g) → (st.1 = [] ∨ (st'.2.1 = f st.2.1 ∧ st'.2.2 = g st.2.2)) →
    ((l.map (shS f g)).foldl ctStep st').1 = ((l.foldl ctStep st).1).map (shC f g)
  | [], _, _, _, _, _, h, _ => h
  | s :: l, last, st, st', hm, hl, h1, h2 => by
    simp only [mayFrom, Bool.and_eq_true] at hm
    obtain ⟨hr, hm⟩ := hm
    rw [List.map_cons, List.foldl_cons, List.foldl_cons]
    have hne := ctStep_ne st s (by
      by_cases hn : st.1 = []
      · right
        rcases (rightB_iff.1 hr).2 with ⟨a, _⟩ | ⟨_, a, _⟩
        · exact a
        · exact absurd (hl hn) a
      · exact .inl hn)
    refine fold_sh f g l s.kind _ _ hm (fun e => absurd e hne) ?_ ?_
    · unfold ctStep
      rw [shS_kind]
      by_cases k1 : s.kind = 1
      · have k4 : s.kind ≠ 4 := by omega
        rw [if_pos k1, if_pos k1]
        simp only [List.map_append, List.map_singleton, h1]
        unfold shS
        rw [if_neg k4]
        rfl
      · rw [if_neg k1, if_neg k1]
        by_cases k4 : s.kind = 4
        · rw [if_pos k4, if_pos k4]
          simp only [h1]
          exact (modLast_map (shC f g) (fun c => { c with shut := true }) (fun c => { c with shut := true }) (fun a => rfl) _).symm
        · rw [if_neg k4, if_neg k4]
          simp only [h1]
          have hn : st.1 ≠ [] := by
            intro hn
            rcases (rightB_iff.1 hr).2 with ⟨a, _⟩ | ⟨_, a, _⟩
            · exact k1 a
            · exact a (hl hn)
          obtain ⟨e1, e2⟩ := h2.resolve_left hn
          refine (modLast_map (shC f g) _ _ (fun a => ?_) _).symm
          unfold shS
          rw [if_neg k4, e1, e2]
          by_cases k3 : s.kind = 3
          · simp [shC, shE, k3]
          · have : (s.kind == 3) = false := by simp [k3]
            simp [shC, shE, k3]
    · right
      unfold ctStep
      rw [shS_kind]
      by_cases k1 : s.kind = 1
      · have k4 : s.kind ≠ 4 := by omega
        rw [if_pos k1, if_pos k1]
        unfold shS
        rw [if_neg k4]
        exact ⟨rfl, rfl⟩
      · rw [if_neg k1, if_neg k1]
        by_cases k4 : s.kind = 4
        · rw [if_pos k4, if_pos k4]
          have hn : st.1 ≠ [] := by
            intro hn
            rcases (rightB_iff.1 hr).2 with ⟨a, _⟩ | ⟨_, a, _⟩
            · exact k1 a
            · exact a (hl hn)
          exact h2.resolve_left hn
        · rw [if_neg k4, if_neg k4]
          unfold shS
          rw [if_neg k4]
          exact ⟨rfl, rfl⟩
theorem pieceB_sh {f g : Int → Int} {s : Sg} (h : pieceB s = true) (ho : okS (shS f g s) = true) : pieceB (shS f g s) = true := by
  unfold okS nearB at ho
  unfold shS at ho ⊢
  by_cases k4 : s.kind = 4
  · rw [if_pos k4]; exact h
  · rw [if_neg k4] at ho ⊢
    unfold pieceB at h ⊢
    by_cases k3 : s.kind = 3
    · simp [k3] at h ho ⊢; simp_all
    · simp [k3, k4] at h ho ⊢; simp_all
theorem mayFrom_sh {f g : Int → Int} : ∀ (l : List Sg) (a : Int), mayFrom a l = true → (l.map (shS f g)).all okS = true → mayFrom a (l.map (shS f g)) = true
  | [], _, _, _ => rfl
  | s :: l, a, h, ho => by
    rw [List.map_cons] at ho ⊢
    simp only [mayFrom, List.all_cons, Bool.and_eq_true] at h ho ⊢
    refine ⟨?_, by rw [shS_kind]; exact mayFrom_sh l _ h.2 ho.2⟩
    rw [rightB_iff] at h ⊢
    rw [shS_kind]
    exact ⟨pieceB_sh h.1.1 ho.1, h.1.2⟩
theorem may_sh {f g : Int → Int} {l : List Sg} (h : mayB l = true) (ho : (l.map (shS f g)).all okS = true) : mayB (l.map (shS f g)) = true := by
  have h1 := mayB_from h
  unfold mayB
  rw [mayFrom_sh l 0 h1.1 ho]
  simpa using h1.2
theorem ctsL_sh {f g : Int → Int} {l : List Sg} (h : mayB l = true) (ho : (l.map (shS f g)).all okS = true) : ctsL (l.map (shS f g)) = (ctsL l).map (shC f g) := by
  rw [ctsL_may h, ctsL_may (may_sh h ho)]
  exact fold_sh f g l 0 ([], 0, 0) ([], 0, 0) (mayB_from h).1 (fun _ => rfl) rfl (.inl rfl)
theorem endX_sh (f g : Int → Int) (x : Int) (es : List Ed) : endX (f x) (es.map (shE f g)) = f (endX x es) := by
  unfold endX; rw [List.getLast?_map]; cases es.getLast? <;> rfl
theorem endY_sh (f g : Int → Int) (y : Int) (es : List Ed) : endY (g y) (es.map (shE f g)) = g (endY y es) := by
  unfold endY; rw [List.getLast?_map]; cases es.getLast? <;> rfl
theorem closeC_sh (dx dy : Int) (c : Ct) : closeC (shC (· + dx) (· + dy) c) = (closeC c).map (shE (· + dx) (· + dy)) := by
  have h1 : endX (shC (· + dx) (· + dy) c).x (shC (· + dx) (· + dy) c).es = endX c.x c.es + dx := endX_sh (· + dx) (· + dy) c.x c.es
  have h2 : endY (shC (· + dx) (· + dy) c).y (shC (· + dx) (· + dy) c).es = endY c.y c.es + dy := endY_sh (· + dx) (· + dy) c.y c.es
  by_cases he : endX c.x c.es = c.x ∧ endY c.y c.es = c.y
  · have l1 : closeC (shC (· + dx) (· + dy) c) = [] := if_pos ⟨h1.trans (by rw [he.1]; rfl), h2.trans (by rw [he.2]; rfl)⟩
    have l2 : closeC c = [] := if_pos he
    rw [l1, l2]; rfl
  · have l1 : closeC (shC (· + dx) (· + dy) c) = [⟨endX (shC (· + dx) (· + dy) c).x (shC (· + dx) (· + dy) c).es, endY (shC (· + dx) (· + dy) c).y (shC (· + dx) (· + dy) c).es, false, 0, 0, c.x + dx, c.y + dy⟩] := if_neg fun hh => he ⟨by
      have : endX c.x c.es + dx = c.x + dx := h1.symm.trans hh.1
      omega, by
      have : endY c.y c.es + dy = c.y + dy := h2.symm.trans hh.2
      omega⟩
    have l2 : closeC c = [⟨endX c.x c.es, endY c.y c.es, false, 0, 0, c.x, c.y⟩] := if_neg he
    rw [l1, l2, h1, h2]; rfl
theorem edgesC_sh (dx dy : Int) (c : Ct) : edgesC (shC (· + dx) (· + dy) c) = (edgesC c).map (shE (· + dx) (· + dy)) := by
  unfold edgesC
  rw [List.map_append, closeC_sh]; rfl
theorem edgesL_sh {dx dy : Int} {l : List Sg} (h : mayB l = true) (ho : (l.map (shS (· + dx) (· + dy))).all okS = true) : edgesL (l.map (shS (· + dx) (· + dy))) = (edgesL l).map (shE (· + dx) (· + dy)) := by
  unfold edgesL
  rw [ctsL_sh h ho, List.flatMap_map, List.map_flatMap]
  congr 1
  funext c
  exact edgesC_sh dx dy c
theorem wid_sh (dx dy x y : Int) (b : Bx) : wid (shB dx dy b) (x + dx) (y + dy) = shB dx dy (wid b x y) := by
  unfold wid shB loI hiI
  rw [Bx.mk.injEq]
  refine ⟨?_, ?_, ?_, ?_⟩ <;> simp only <;> split <;> split <;> omega
theorem boxStep_sh (dx dy : Int) (b : Bx) (s : Sg) : boxStep (shB dx dy b) (shS (· + dx) (· + dy) s) = shB dx dy (boxStep b s) := by
  unfold boxStep
  rw [shS_kind]
  by_cases k4 : s.kind = 4
  · rw [if_pos k4, if_pos k4]
  · rw [if_neg k4, if_neg k4]
    unfold shS
    rw [if_neg k4]
    by_cases k3 : s.kind = 3
    · simp only [if_pos k3]; rw [wid_sh, wid_sh]
    · simp only [if_neg k3]; rw [wid_sh]
theorem foldl_sh (dx dy : Int) : ∀ (l : List Sg) (b : Bx), (l.map (shS (· + dx) (· + dy))).foldl boxStep (shB dx dy b) = shB dx dy (l.foldl boxStep b)
  | [], _ => rfl
  | s :: l, b => by rw [List.map_cons, List.foldl_cons, List.foldl_cons, boxStep_sh, foldl_sh dx dy l]
theorem boxFrom_sh {dx dy : Int} {l : List Sg} (h : mayB l = true) (h0 : l ≠ []) : boxFrom (l.map (shS (· + dx) (· + dy))) = shB dx dy (boxFrom l) := by
  have hl := List.length_pos_iff.2 h0
  have hk := may_first h hl
  rw [boxFrom_get l hl, boxFrom_get _ (by simpa using hl), ← foldl_sh]
  congr 1
  have : (l.map (shS (· + dx) (· + dy)))[0]'(by simpa using hl) = shS (· + dx) (· + dy) l[0] := List.getElem_map ..
  simp only [this]
  unfold shS shB
  rw [if_neg (by rw [hk]; decide)]

theorem sh_small {d e : Int} {s : Sg} (hd : -20000 ≤ d ∧ d ≤ 20000) (he : -20000 ≤ e ∧ e ≤ 20000) (hs : -20000 ≤ s.x ∧ s.x ≤ 20000) (hs2 : -20000 ≤ s.y ∧ s.y ≤ 20000) (hs3 : -20000 ≤ s.cx ∧ s.cx ≤ 20000) (hs4 : -20000 ≤ s.cy ∧ s.cy ≤ 20000) :
    shS (ad d) (ad e) s = shS (· + d) (· + e) s := by
  unfold shS
  rw [ad_small hd hs, ad_small he hs2, ad_small hd hs3, ad_small he hs4]
theorem sh_back (d e : Int) (s : Sg) : shS (· + -d) (· + -e) (shS (· + d) (· + e) s) = s := by
  obtain ⟨k, x, y, cx, cy⟩ := s
  unfold shS
  by_cases k4 : k = 4
  · simp [k4]
  · by_cases k3 : k = 3
    · simp [k3]; omega
    · simp [k4, k3]; omega
theorem okS_small {s : Sg} (h : (-8191 ≤ s.x ∧ s.x ≤ 8191) ∧ (-8191 ≤ s.y ∧ s.y ≤ 8191) ∧ (-8191 ≤ s.cx ∧ s.cx ≤ 8191) ∧ (-8191 ≤ s.cy ∧ s.cy ≤ 8191)) : okS s = true := by
  unfold okS; simp [nearB, co_iff]; omega

theorem moves {l : List Sg} {bows : Bool} (hl : MadeOK l bows) {dx dy : Int} (hx : -2000 ≤ dx ∧ dx < 2000) (hy : -2000 ≤ dy ∧ dy < 2000) :
    ∃ m, shiftL (ad dx) (ad dy) l = (m, 0) ∧ m.length = l.length ∧ shiftL (ad (-dx)) (ad (-dy)) m = (l, 0) ∧ edgesL m = (edgesL l).map (shE (· + dx) (· + dy)) ∧ (l ≠ [] → boxL m = (shB dx dy (boxFrom l), true)) := by
  have hmay := hl.may
  have hsm := hl.2.2.1
  have hT : l.map (shS (ad dx) (ad dy)) = l.map (shS (· + dx) (· + dy)) := List.map_congr_left fun s hs => by
    obtain ⟨a1, a2, a3, a4⟩ := hsm s hs
    exact sh_small (by omega) (by omega) (by omega) (by omega) (by omega) (by omega)
  have hb : ∀ s ∈ l, (-2100 ≤ (shS (· + dx) (· + dy) s).x ∧ (shS (· + dx) (· + dy) s).x ≤ 2300) ∧ (-2100 ≤ (shS (· + dx) (· + dy) s).y ∧ (shS (· + dx) (· + dy) s).y ≤ 2300) ∧
      (-2100 ≤ (shS (· + dx) (· + dy) s).cx ∧ (shS (· + dx) (· + dy) s).cx ≤ 2300) ∧ (-2100 ≤ (shS (· + dx) (· + dy) s).cy ∧ (shS (· + dx) (· + dy) s).cy ≤ 2300) := fun s hs => by
    obtain ⟨a1, a2, a3, a4⟩ := hsm s hs
    unfold shS
    by_cases k4 : s.kind = 4
    · rw [if_pos k4]; omega
    · rw [if_neg k4]
      by_cases k3 : s.kind = 3
      · simp only [if_pos k3]; omega
      · simp only [if_neg k3]; omega
  have ho : (l.map (shS (· + dx) (· + dy))).all okS = true := by
    rw [List.all_eq_true]
    intro t ht
    obtain ⟨s, hs, rfl⟩ := List.mem_map.1 ht
    have := hb s hs
    exact okS_small (by omega)
  refine ⟨l.map (shS (· + dx) (· + dy)), ?_, by simp, ?_, edgesL_sh hmay ho, fun h0 => ?_⟩
  · rw [← hT]; exact shiftL_all hmay (by rw [hT]; exact ho)
  · have hT2 : (l.map (shS (· + dx) (· + dy))).map (shS (ad (-dx)) (ad (-dy))) = l := by
      rw [List.map_map]
      conv => rhs; rw [← List.map_id l]
      refine List.map_congr_left fun s hs => ?_
      have := hb s hs
      simp only [Function.comp, id]
      rw [sh_small (by omega) (by omega) (by omega) (by omega) (by omega) (by omega), sh_back]
    have h2 := shiftL_all (f := ad (-dx)) (g := ad (-dy)) (may_sh hmay ho) (by
      rw [hT2, List.all_eq_true]
      intro s hs
      obtain ⟨a1, a2, a3, a4⟩ := hsm s hs
      exact okS_small (by omega))
    rw [h2, hT2]
  · unfold boxL
    rw [if_neg (by rw [may_sh hmay ho]; simp [h0]), boxFrom_sh hmay h0]
theorem moves_far {l : List Sg} {bows : Bool} (hl : MadeOK l bows) (h0 : l ≠ []) : shiftL (ad 16382) (ad 0) l = ([], 2) := by
  have hn := List.length_pos_iff.2 h0
  have hk := may_first hl.may hn
  refine shiftL_not hl.may hn ?_
  obtain ⟨a1, a2, a3, a4⟩ := hl.2.2.1 l[0] (List.getElem_mem hn)
  rw [sh_small (by omega) (by omega) (by omega) (by omega) (by omega) (by omega)]
  unfold shS
  rw [if_neg (by rw [hk]; decide)]
  unfold okS nearB
  have : co (l[0].x + 16382) = false := co_no (by omega)
  simp [this]
theorem edges_co (l : List Sg) : ∀ e ∈ edgesL l, edOK e = true := by
  intro e he
  unfold edgesL at he
  rw [List.mem_flatMap] at he
  obtain ⟨c, hc, he⟩ := he
  have hg := ctsL_good l c hc
  unfold edgesC at he
  rcases List.mem_append.1 he with he | he
  · exact hg.2.1 e he
  · unfold closeC at he
    split at he
    · simp at he
    · rw [List.mem_singleton] at he
      obtain ⟨e1, e2⟩ := end_co hg.2.1 hg.2.2.1 hg.2.2.2
      have h3 := hg.2.2
      subst he
      rw [co_iff] at e1 e2
      rw [co_iff, co_iff] at h3
      refine edOK_mk e1 e2 (by omega) (by omega) h3.1 h3.2 (.inr ⟨rfl, rfl⟩)
theorem box_co {l : List Sg} {bows : Bool} (hl : MadeOK l bows) (h0 : l ≠ []) : (-32 ≤ (boxFrom l).x0 ∧ (boxFrom l).x0 < 288) ∧ (-32 ≤ (boxFrom l).y0 ∧ (boxFrom l).y0 < 288) ∧ (-32 ≤ (boxFrom l).x1 ∧ (boxFrom l).x1 < 288) ∧ (-32 ≤ (boxFrom l).y1 ∧ (boxFrom l).y1 < 288) := by
  obtain ⟨_, ⟨p0, q0, e0⟩, ⟨p1, q1, e1⟩, ⟨p2, q2, e2⟩, ⟨p3, q3, e3⟩⟩ := box_is hl.may h0
  have hp : ∀ p ∈ pts l, (-32 ≤ p.1 ∧ p.1 < 288) ∧ (-32 ≤ p.2 ∧ p.2 < 288) := fun p hp => by
    unfold pts at hp
    rw [List.mem_flatMap] at hp
    obtain ⟨s, hs, hp⟩ := hp
    obtain ⟨a1, a2, a3, a4⟩ := hl.2.2.1 s hs
    unfold ptS at hp
    split at hp
    · simp at hp
    · split at hp
      · simp at hp; rcases hp with rfl | rfl
        · exact ⟨a3, a4⟩
        · exact ⟨a1, a2⟩
      · simp at hp; subst hp; exact ⟨a1, a2⟩
  have b0 := hp _ q0
  have b1 := hp _ q1
  have b2 := hp _ q2
  have b3 := hp _ q3
  omega

end Go.Proofs.Ytbpgehaflbacmaa
