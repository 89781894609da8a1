/- state.clips: a list of clips in new memory. -/
import Derived.Test.YtaadajadeemndaaSt3
import Derived.Test.YtaadajadeemndaaOwn
import Derived.Laws.OwnMore
import Derived.OneCell
namespace Go.Proofs.Ytaadajadeemndaa
open Go.RowKit Go.BigFrame

theorem own_max {w : World} {base : Nat} {e : TypeId} {s n c : Nat} {A : Option Addr} {xs : List Value} (h : w.ownsRow base e s (.slice A n c) n xs) : c ≤ 9223372036854775807 := by
  rcases h.2 with ⟨hv, h0⟩ | ⟨g, cap, cur, hv, _, hg, hn, hm, _, _⟩
  · simp only [Value.slice.injEq] at hv; omega
  · simp only [Value.slice.injEq] at hv
    obtain ⟨_, _, rfl⟩ := hv
    simpa [maxLen] using hm
/-- A value reads as a path that does not lie in block g. -/
def PathX (w : World) (g : Nat) (v : Value) (l : List Sg) : Prop := ∃ A c, v = .slice A l.length c ∧ Sl w 5 A l.length (sgs l) ∧ (0 < l.length → ∀ a, A = some a → a.block ≠ g) ∧ l.length ≤ c ∧ c ≤ 9223372036854775807
theorem PathX.v {w : World} {g : Nat} {v : Value} {l : List Sg} (h : PathX w g v l) : PathV w v l := by
  obtain ⟨A, c, e, hs, _, hc⟩ := h
  exact ⟨A, c, e, hs, hc⟩
theorem PathX.below {w w' : World} {g : Nat} {v : Value} {l : List Sg} (h : PathX w g v l) (hb : Below w.heap.size w w') : PathX w' g v l := by
  obtain ⟨A, c, e, hs, hc⟩ := h
  exact ⟨A, c, e, hs.below hb, hc⟩
theorem PathX.set {w : World} {g : Nat} {v : Value} {l : List Sg} (h : PathX w g v l) (o : Nat) (u : Value) : PathX (w.setCell ⟨g, o, none⟩ u) g v l := by
  obtain ⟨A, c, e, hs, hg, hc⟩ := h
  refine ⟨A, c, e, ⟨hs.1, fun hn => ?_⟩, hg, hc⟩
  obtain ⟨b, off, rfl, hb, hcell⟩ := hs.2 hn
  refine ⟨b, off, rfl, by simpa [World.setCell] using hb, fun j u' hu => ?_⟩
  rw [World.cell?_setCell_other _ _ _ _ (by intro e; injection e with e1; exact hg hn _ rfl e1.symm)]
  exact hcell j u' hu
theorem PathV.x {w : World} {g : Nat} {v : Value} {l : List Sg} (h : PathV w v l) (hg : w.heap.size ≤ g) : PathX w g v l := by
  obtain ⟨A, c, e, hs, hc⟩ := h
  refine ⟨A, c, e, hs, fun hn a ha => ?_, hc⟩
  obtain ⟨b, off, rfl, hb, _⟩ := hs.2 hn
  injection ha with ha
  subst ha
  simp only
  omega
theorem own_x {w : World} {base g : Nat} {l : List Sg} {v : Value} (h : w.ownsRow base 42 5 v l.length (sgs l)) (hg : g < base) : PathX w g v l := by
  obtain ⟨A, c, rfl⟩ := own_form h
  refine ⟨A, c, rfl, own_sl h, fun hn a ha => ?_, own_cap h, own_max h⟩
  obtain ⟨g', rfl, hb, _⟩ := own_addr h hn
  injection ha with ha
  subst ha
  simp only
  omega
theorem own_pathV {w : World} {base : Nat} {l : List Sg} {v : Value} {t : TypeId} (h : w.ownsRow base t 5 v l.length (sgs l)) : PathV w v l := by
  obtain ⟨A, c, rfl⟩ := own_form h
  exact ⟨A, c, rfl, own_sl h, own_cap h, own_max h⟩
theorem own_intsV {w : World} {base : Nat} {l : List Int} {v : Value} {t : TypeId} (h : w.ownsRow base t 1 v l.length (ints l)) : IntsV w v l := by
  obtain ⟨A, c, rfl⟩ := own_form h
  exact ⟨A, c, rfl, own_sl h, own_cap h, own_max h⟩
theorem clcs_set (ps : List (Cl × Value)) (i : Nat) (hi : i < ps.length) (u : Value) : (clcs ps).set (i * 2) u = clcs (ps.set i (ps[i].1, u)) := by
  induction ps generalizing i with
  | nil => simp at hi
  | cons a l ih =>
    cases i with
    | zero => rfl
    | succ i =>
      have hi' : i < l.length := by simpa using hi
      have e : (i + 1) * 2 = i * 2 + 1 + 1 := by omega
      rw [e]
      show (a.2 :: (.int .i64 a.1.rule) :: clcs l).set (i * 2 + 1 + 1) u = _
      rw [List.set_cons_succ, List.set_cons_succ, ih i hi']
      rfl
theorem map_set_fst (ps : List (Cl × Value)) (i : Nat) (hi : i < ps.length) (u : Value) : (ps.set i (ps[i].1, u)).map Prod.fst = ps.map Prod.fst := by
  apply List.ext_getElem
  · simp
  · intro j h1 h2
    simp only [List.getElem_map, List.getElem_set]
    split
    · rename_i h; subst h; rfl
    · rfl
/-- Clips in memory of one's own. -/
def ClOwn (w : World) (B : Nat) (v : Value) (l : List Cl) : Prop := ∃ ps : List (Cl × Value), ps.map Prod.fst = l ∧ w.ownsRow B 57 2 v l.length (clcs ps) ∧ ∀ p ∈ ps, w.ownsRow B 42 5 p.2 p.1.p.length (sgs p.1.p)
theorem ClOwn.v {w : World} {B : Nat} {v : Value} {l : List Cl} (h : ClOwn w B v l) : ClV w v l := by
  obtain ⟨ps, hm, ho, hp⟩ := h
  obtain ⟨A, c, rfl⟩ := own_form ho
  exact ⟨A, c, rfl, own_cap ho, own_max ho, ps, hm, own_sl ho, fun p hpp => own_pathV (hp p hpp)⟩
theorem ClOwn.below {w w' : World} {B : Nat} {v : Value} {l : List Cl} (h : ClOwn w B v l) (hb : Below w.heap.size w w') : ClOwn w' B v l := by
  obtain ⟨ps, hm, ho, hp⟩ := h
  exact ⟨ps, hm, own_below ho hb, fun p hpp => own_below (hp p hpp) hb⟩
theorem ClOwn.mono {w : World} {B B' : Nat} {v : Value} {l : List Cl} (h : ClOwn w B v l) (hb : B' ≤ B) : ClOwn w B' v l := by
  obtain ⟨ps, hm, ho, hp⟩ := h
  exact ⟨ps, hm, own_mono ho hb, fun p hpp => own_mono (hp p hpp) hb⟩
theorem ClOwn.set {w : World} {B g : Nat} {v : Value} {l : List Cl} (h : ClOwn w B v l) (hg : g < B) (o : Nat) (u : Value) : ClOwn (w.setCell ⟨g, o, none⟩ u) B v l := by
  obtain ⟨ps, hm, ho, hp⟩ := h
  exact ⟨ps, hm, own_setCell ho hg o u, fun p hpp => own_setCell (hp p hpp) hg o u⟩
theorem oneCell_clc (p : Cl × Value) (h : p.2.oneCell' = true) : ∀ u ∈ clc p, u.oneCell' = true := by
  intro u hu; simp only [clc, List.mem_cons, List.not_mem_nil, or_false] at hu; rcases hu with rfl | rfl; exact h; rfl
theorem oneCell_clcs (ps : List (Cl × Value)) (h : ∀ p ∈ ps, p.2.oneCell' = true) : ∀ u ∈ clcs ps, u.oneCell' = true := by
  intro u hu
  rw [clcs, List.mem_flatMap] at hu
  obtain ⟨p, hp, hu⟩ := hu
  exact oneCell_clc p (h p hp) u hu
theorem PathV.one {w : World} {v : Value} {l : List Sg} (h : PathV w v l) : v.oneCell' = true := by obtain ⟨_, _, rfl, _⟩ := h; rfl
set_option maxRecDepth 100000 in
set_option maxHeartbeats 4000000 in
theorem clips_any (A : Option Addr) (n c : Nat) (l : List Cl) (w : World) (hl : n = l.length) (hn : n ≤ 1000) (hpl : ∀ c ∈ l, c.p.length ≤ 1000) (h : ClSl w A l) :
    Calls Try.prog 84 #[.slice A n c] w fun e w' => ∃ A' c', e = .returned (.slice A' n c') ∧ ClOwn w' w.heap.size (.slice A' n c') l ∧ Below w.heap.size w w' := by
  obtain ⟨ps0, hps0, hs0, hp0⟩ := h
  rw [← hl] at hs0
  have HPL := Lib.hid hpl
  have HL := Lib.hid hl
  clear hpl hl
  go_enter Try.func84, Try.ntmps84
  go_wp2_with fail
  refine (ownClip_any A n c (clcs ps0) _ hs0 (oneCell_clcs ps0 fun p hp => (hp0 p hp).one) (by omega)).mono ?_; rintro e w1 ⟨A1, c1, rfl, ho1, hb1⟩
  have HX : ∃ g, w.heap.size ≤ g ∧ (0 < n → A1 = some ⟨g, 0, none⟩ ∧ g < w1.heap.size) := by
    rcases Nat.eq_zero_or_pos n with h0 | h0
    · exact ⟨w.heap.size, Nat.le_refl _, fun h => by omega⟩
    · obtain ⟨g, e, h1, h2⟩ := own_addr ho1 h0
      exact ⟨g, h1, fun _ => ⟨e, h2⟩⟩
  obtain ⟨g, hg, hgA⟩ := HX
  have hX1 : ∀ p ∈ ps0, PathX w1 g p.2 p.1.p := fun p hp => ((hp0 p hp).x hg).below hb1
  clear hp0 hs0
  go_wp2_with fail
  go_loopw [9] (fun s9 wr => ∃ (i : Nat) (ps : List (Cl × Value)), i ≤ n ∧ s9 = .int .i64 (i : Int) ∧ ps.map Prod.fst = l ∧ wr.ownsRow w.heap.size 57 2 (.slice A1 n c1) n (clcs ps) ∧ Hid (∀ p ∈ ps, PathX wr g p.2 p.1.p) ∧ Hid (∀ j (hj : j < ps.length), j < i → wr.ownsRow w.heap.size 42 5 ps[j].2 ps[j].1.p.length (sgs ps[j].1.p)) ∧ Below w.heap.size w wr ∧ w1.heap.size ≤ wr.heap.size) (fun s9 _ => n - (intOf s9).toNat)
  case atStart => exact ⟨0, ps0, Nat.zero_le _, rfl, hps0, ho1, Lib.hid hX1, Lib.hid (fun j _ h => absurd h (by omega)), hb1, Nat.le_refl _⟩
  case round =>
    obtain ⟨i, ps, hi, rfl, hps, hor, hx, hxo, hbr, hsz⟩ := hrel
    have hpl : ps.length = n := by rw [HL.out, ← hps, List.length_map]
    by_cases hlt : i < n
    · obtain ⟨rfl, hgw⟩ := hgA (by omega)
      have hi' : i < ps.length := by omega
      obtain ⟨Ae, ce, ev, hse, hgx, hce, hcm⟩ := hx.out ps[i] (List.getElem_mem hi')
      obtain ⟨b, off, e, hbl, c0, c1'⟩ := (own_sl hor).cl i hlt hi'
      obtain ⟨rfl, rfl⟩ : g = b ∧ 0 = off := by simpa using e
      rw [ev, Nat.zero_add] at c0
      have hlen : ps[i].1.p.length ≤ 1000 := by
        refine HPL.out ps[i].1 ?_
        rw [← hps]
        exact List.mem_map_of_mem (List.getElem_mem hi')
      obtain ⟨ne, hne⟩ : ∃ n, n = ps[i].1.p.length := ⟨_, rfl⟩
      obtain ⟨le, hle⟩ : ∃ q, q = ps[i].1.p := ⟨_, rfl⟩
      rw [← hne] at c0 hse hlen
      rw [← hle] at hse hne
      have HLE := Lib.hid hle
      have HO := Lib.hid hor
      have HNE := Lib.hid hne
      clear e hle hor c1' hgx hne
      go_wp2_with fail
      refine (ownSeg_any Ae ne ce (sgs le) _ hse (oneCell_sgs _) (by omega)).mono ?_; rintro e w3 ⟨A3, c3, rfl, ho3, hb3⟩
      have hor3 := own_below HO.out hb3
      have f0 := hor3.frozenAt (i * 2)
      have hg3 : g < wr.heap.size := by omega
      have d0 := (later_cell hb3 hg3 (o := i * 2)).trans c0
      go_wp2_with fail
      go_roundw
      case rel =>
        refine ⟨i + 1, ps.set i (ps[i].1, .slice A3 ne c3), by omega, by go_num, by rw [map_set_fst ps i hi']; exact hps, ?_, ?_, ?_, bset (btr hbr hb3) hg _, ?_⟩
        · rw [← clcs_set ps i hi']; exact (hor3.stored (i * 2) _).1
        · refine Lib.hid fun p hp => ?_
          rcases List.mem_or_eq_of_mem_set hp with hp | rfl
          · exact ((hx.out p hp).below hb3).set _ _
          · simp only
            rw [← HLE.out]
            rw [HNE.out] at ho3 ⊢
            exact (own_x ho3 hg3).set _ _
        · refine Lib.hid fun j hj hji => ?_
          have hnb : ∀ {v : Value} {n : Nat} {xs : List Value} {B : Nat}, w3.ownsRow B 42 5 v n xs → v.ownBlock ≠ some g := fun {v n xs B} ho => by
            rcases own_ne ho hor3 (by decide) with h | h
            · rw [h]; simp
            · simpa [Value.ownBlock] using h
          have hjl : j < ps.length := by simpa using hj
          by_cases hij : i = j
          · subst hij
            have e1 : (ps.set i (ps[i].1, .slice A3 ne c3))[i] = (ps[i].1, .slice A3 ne c3) := by simp
            rw [e1]
            simp only
            rw [← HLE.out, ← HNE.out]
            exact ownsRow_setCell_other (own_mono ho3 (by omega)) (hnb ho3) _
          · have e1 : (ps.set i (ps[i].1, .slice A3 ne c3))[j] = ps[j] := by rw [List.getElem_set_ne hij]
            rw [e1]
            have h4 := own_below (hxo.out j hjl (by omega)) hb3
            exact ownsRow_setCell_other h4 (hnb h4) _
        · have := hb3.size; simp [World.setCell]; omega
      case measure => simp [intOf]; omega
    · go_wp2_with fail
      go_ret
      exact ⟨A1, c1, rfl, ⟨ps, hps, by rw [← HL.out]; exact hor, fun p hp => by
        obtain ⟨j, hj, rfl⟩ := List.getElem_of_mem hp
        exact hxo.out j hj (by omega)⟩, hbr⟩
end Go.Proofs.Ytaadajadeemndaa
