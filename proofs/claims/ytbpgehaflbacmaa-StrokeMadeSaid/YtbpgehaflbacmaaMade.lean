/- L.seg and Made: a path by numbers. -/
import Derived.Test.YtbpgehaflbacmaaEdge
import Derived.Test.YtbpgehaflbacmaaAllP
namespace Go.Proofs.Ytbpgehaflbacmaa
open Go.RowKit

theorem sgT0 : SlT Try.prog 24 42 5 40 := slT_of Try.underlying24 (by kernel_rfl) (by omega) (by omega)

section
variable {w w' : World} {g : Nat}
theorem g2b (h : w.grownBy w' (some g)) : Below g w w' ∨ w.heap.size < g := by
  rcases Nat.lt_or_ge w.heap.size g with h0 | h0
  · exact .inr h0
  · exact .inl ⟨h.os, h.tape, h.output, h.size, fun k hk => h.block k (by omega) (by simp; omega)⟩
theorem g2b' (h : w.grownBy w' (some g)) (hg : g < w.heap.size) : Below g w w' := ⟨h.os, h.tape, h.output, h.size, fun k hk => h.block k (by omega) (by simp; omega)⟩
theorem LN_lt (h : LN w g) : g < w.heap.size := by obtain ⟨_, _, _, _, _, _, _, hg, _⟩ := h; exact hg
theorem LN_grown (h : LN w g) {row : Option Nat} (hg : w.grownBy w' row) (hr : ∀ k, row = some k → g < k) : LN w' g := by
  obtain ⟨A, n, c, hc, hf, hnc, hcm, hgl, hz⟩ := h
  have hb : ∀ k, k ≤ g → w'.heap[k]? = w.heap[k]? := fun k hk => hg.block k (by omega) (fun e => by have := hr k e.symm; omega)
  refine ⟨A, n, c, (World.cell?_of_block (a := ⟨g, 0, none⟩) (hb g (Nat.le_refl _))).trans hc, (World.frozen?_of_block (a := ⟨g, 0, none⟩) (hb g (Nat.le_refl _))).trans hf, hnc, hcm, Nat.lt_of_lt_of_le hgl hg.size, fun h0 => ?_⟩
  obtain ⟨b, off, rfl, hlt, hz⟩ := hz h0
  exact ⟨b, off, rfl, hlt, fun j hj => by
    obtain ⟨z, hz⟩ := hz j hj
    exact ⟨z, (World.cell?_of_block (a := ⟨b, off + j, none⟩) (hb b (by omega))).trans hz⟩⟩
/-- A row of blocks behind g is kept while block g is written. -/
theorem own_g {base : Nat} {e : TypeId} {s n : Nat} {v : Value} {xs : List Value} (h : w.ownsRow base e s v n xs) (hg : w.grownBy w' (some g)) (hb : g < base) : w'.ownsRow base e s v n xs :=
  h.kept hg (by
    cases hv : v.ownBlock with
    | none => exact .inl rfl
    | some k => refine .inr ?_; have := (h.lt k hv).1; intro e; injection e with e; omega)
theorem seg_end {w w3 w4 : World} {g B n c c' : Nat} {A A' : Option Addr} {l : List Sg} {s : Sg} {o : Obj} (h0 : Below g w w3) (h3 : LN w3 g) (hown3 : w3.ownsRow B 42 5 (.slice A n c) n (sgs l)) (hgB : g < B)
    (hg4 : (w3.alloc o).grownBy w4 (Value.ownBlock (.slice A n c))) (hown4 : w4.ownsRow B 42 5 (.slice A' (n + 1) c') (n + 1) (sgs l ++ sgc s)) :
    w4.ownsRow B 42 5 (.slice A' (n + 1) c') (n + 1) (sgs (l ++ [s])) ∧ LN w4 g ∧ Below g w w4 := by
  have hr : ∀ k, Value.ownBlock (.slice A n c) = some k → g < k := fun k hk => Nat.lt_of_lt_of_le hgB (hown3.lt k hk).1
  refine ⟨by rw [sgs_app, sgs_one]; exact hown4, LN_grown (LN_alloc h3 o) hg4 hr, ?_⟩
  exact (h0.alloc (Nat.le_of_lt (LN_lt h3)) o).grown hg4 (by have := LN_lt h3; simp; omega) (fun k hk => Nat.le_of_lt (hr k hk))
end



set_option maxHeartbeats 4000000 in
theorem seg_any (g B n c : Nat) (A : Option Addr) (l : List Sg) (bows : Bool) (w : World) (h : LN w g) (hown : w.ownsRow B 42 5 (.slice A n c) n (sgs l)) (hgB : g < B) (hB : B ≤ w.heap.size) (hn : n ≤ 100) :
    Calls Try.prog 15 #[.pointer (some ⟨g, 0, none⟩), .slice A n c, .bool bows] w
      fun e w' => ∃ s A' c', e = .returned (.slice A' (n + 1) c') ∧ w'.ownsRow B 42 5 (.slice A' (n + 1) c') (n + 1) (sgs (l ++ [s])) ∧ Okd s (lastK l) bows ∧ LN w' g ∧ Below g w w' := by
  have hl := (own_sl hown).sglen
  obtain ⟨last, hlast⟩ : ∃ last, last = lastK l := ⟨_, rfl⟩
  rw [← hlast]
  go_enter Try.func15, Try.ntmps15
  go_wp2_with fail
  refine (Next_any _ _ _ (by omega) h).mono ?_; rintro e w1 ⟨⟨v, rfl, hv1, hv2⟩, h1, hg1⟩
  have B1 : Below g w w1 := g2b' hg1 (LN_lt h)
  have hown1 := own_g hown hg1 hgB
  clear hown hg1 h
  by_cases hn0 : n = 0
  · subst hn0
    have hlast0 : last = 0 := by rw [hlast]; have : l = [] := List.eq_nil_of_length_eq_zero hl; subst this; rfl
    subst hlast0
    clear hlast
    go_wp2_with fail
    refine (Coord_any _ _ h1).mono ?_; rintro e w2 ⟨⟨a, rfl, ha1, ha2⟩, h2, hg2⟩
    have B2 := B1.trans (g2b' hg2 (LN_lt h1))
    have hown2 := own_g hown1 hg2 hgB
    clear hown1 hg2 h1 B1
    go_wp2_with fail
    refine (Coord_any _ _ h2).mono ?_; rintro e w3 ⟨⟨b', rfl, hb1, hb2⟩, h3, hg3⟩
    have B3 := B2.trans (g2b' hg3 (LN_lt h2))
    have hown3 := own_g hown2 hg3 hgB
    have hsz3 := B3.size
    clear hown2 hg3 h2 B2
    go_wp2_with (at_builtin; refine wpList_app rfl _ _ 24 rfl B sgT0 rfl (own_below hown3 (bal (Below.refl _ _) _)) (sgc ⟨1, a, b', 0, 0⟩) rfl (sl_newN _ (by simp) rfl) (oneCell_sgc _) (by omega) (by simp; omega) ?_; intro A' c' w4 hown4 hg4 hat4)
    go_ret
    obtain ⟨r1, r2, r3⟩ := seg_end B3 h3 hown3 hgB hg4 hown4
    exact ⟨⟨1, a, b', 0, 0⟩, A', c', rfl, r1, okd_move ⟨ha1, ha2⟩ ⟨hb1, hb2⟩ (by omega), r2, r3⟩
  · obtain ⟨b, off, rfl, hbb, c0, -⟩ := (own_sl hown1).sg (n - 1) (by omega) (by omega)
    have hlk : l[n - 1]'(by omega) = l[l.length - 1]'(by omega) := by simp only [hl]
    rw [hlk, ← lastK_get l (by omega), ← hlast] at c0
    have hnn : 1 ≤ n := by omega
    clear hlk hlast hn0
    by_cases hm4 : last = 4
    · subst hm4
      go_wp2_with fail
      refine (Coord_any _ _ h1).mono ?_; rintro e w2 ⟨⟨a, rfl, ha1, ha2⟩, h2, hg2⟩
      have B2 := B1.trans (g2b' hg2 (LN_lt h1))
      have hown2 := own_g hown1 hg2 hgB
      clear hown1 hg2 h1 B1
      go_wp2_with fail
      refine (Coord_any _ _ h2).mono ?_; rintro e w3 ⟨⟨b', rfl, hb1, hb2⟩, h3, hg3⟩
      have B3 := B2.trans (g2b' hg3 (LN_lt h2))
      have hown3 := own_g hown2 hg3 hgB
      have hsz3 := B3.size
      clear hown2 hg3 h2 B2
      go_wp2_with (at_builtin; refine wpList_app rfl _ _ 24 rfl B sgT0 rfl (own_below hown3 (bal (Below.refl _ _) _)) (sgc ⟨1, a, b', 0, 0⟩) rfl (sl_newN _ (by simp) rfl) (oneCell_sgc _) (by omega) (by simp; omega) ?_; intro A' c' w4 hown4 hg4 hat4)
      go_ret
      obtain ⟨r1, r2, r3⟩ := seg_end B3 h3 hown3 hgB hg4 hown4
      exact ⟨⟨1, a, b', 0, 0⟩, A', c', rfl, r1, okd_move ⟨ha1, ha2⟩ ⟨hb1, hb2⟩ (by omega), r2, r3⟩
    · by_cases hm0 : last = 0
      · subst hm0
        go_wp2_with fail
        refine (Coord_any _ _ h1).mono ?_; rintro e w2 ⟨⟨a, rfl, ha1, ha2⟩, h2, hg2⟩
        have B2 := B1.trans (g2b' hg2 (LN_lt h1))
        have hown2 := own_g hown1 hg2 hgB
        clear hown1 hg2 h1 B1
        go_wp2_with fail
        refine (Coord_any _ _ h2).mono ?_; rintro e w3 ⟨⟨b', rfl, hb1, hb2⟩, h3, hg3⟩
        have B3 := B2.trans (g2b' hg3 (LN_lt h2))
        have hown3 := own_g hown2 hg3 hgB
        have hsz3 := B3.size
        clear hown2 hg3 h2 B2
        go_wp2_with (at_builtin; refine wpList_app rfl _ _ 24 rfl B sgT0 rfl (own_below hown3 (bal (Below.refl _ _) _)) (sgc ⟨1, a, b', 0, 0⟩) rfl (sl_newN _ (by simp) rfl) (oneCell_sgc _) (by omega) (by simp; omega) ?_; intro A' c' w4 hown4 hg4 hat4)
        go_ret
        obtain ⟨r1, r2, r3⟩ := seg_end B3 h3 hown3 hgB hg4 hown4
        exact ⟨⟨1, a, b', 0, 0⟩, A', c', rfl, r1, okd_move ⟨ha1, ha2⟩ ⟨hb1, hb2⟩ (by omega), r2, r3⟩
      · have t4 : (last == 4) = false := by simpa using hm4
        have t0 : (last == 0) = false := by simpa using hm0
        by_cases hv0 : v = 0
        · subst hv0
          by_cases hl1 : last = 1
          · subst hl1
            cases bows
            · go_wp2_with fail
              refine (Coord_any _ _ h1).mono ?_; rintro e w2 ⟨⟨a, rfl, ha1, ha2⟩, h2, hg2⟩
              have B2 := B1.trans (g2b' hg2 (LN_lt h1))
              have hown2 := own_g hown1 hg2 hgB
              clear hown1 hg2 h1 B1
              go_wp2_with fail
              refine (Coord_any _ _ h2).mono ?_; rintro e w3 ⟨⟨b', rfl, hb1, hb2⟩, h3, hg3⟩
              have B3 := B2.trans (g2b' hg3 (LN_lt h2))
              have hown3 := own_g hown2 hg3 hgB
              have hsz3 := B3.size
              clear hown2 hg3 h2 B2
              go_wp2_with (at_builtin; refine wpList_app rfl _ _ 24 rfl B sgT0 rfl (own_below hown3 (bal (Below.refl _ _) _)) (sgc ⟨2, a, b', 0, 0⟩) rfl (sl_newN _ (by simp) rfl) (oneCell_sgc _) (by omega) (by simp; omega) ?_; intro A' c' w4 hown4 hg4 hat4)
              go_ret
              obtain ⟨r1, r2, r3⟩ := seg_end B3 h3 hown3 hgB hg4 hown4
              exact ⟨⟨2, a, b', 0, 0⟩, A', c', rfl, r1, okd_line ⟨ha1, ha2⟩ ⟨hb1, hb2⟩ (by omega), r2, r3⟩
            · go_wp2_with fail
              refine (Coord_any _ _ h1).mono ?_; rintro e w2 ⟨⟨a, rfl, ha1, ha2⟩, h2, hg2⟩
              have B2 := B1.trans (g2b' hg2 (LN_lt h1))
              have hown2 := own_g hown1 hg2 hgB
              clear hown1 hg2 h1 B1
              go_wp2_with fail
              refine (Coord_any _ _ h2).mono ?_; rintro e w3 ⟨⟨b', rfl, hb1, hb2⟩, h3, hg3⟩
              have B3 := B2.trans (g2b' hg3 (LN_lt h2))
              have hown3 := own_g hown2 hg3 hgB
              clear hown2 hg3 h2 B2
              go_wp2_with fail
              refine (Coord_any _ _ h3).mono ?_; rintro e w4 ⟨⟨c', rfl, hc1, hc2⟩, h4, hg4⟩
              have B4 := B3.trans (g2b' hg4 (LN_lt h3))
              have hown4 := own_g hown3 hg4 hgB
              clear hown3 hg4 h3 B3
              go_wp2_with fail
              refine (Coord_any _ _ h4).mono ?_; rintro e w5 ⟨⟨d', rfl, hd1, hd2⟩, h5, hg5⟩
              have B5 := B4.trans (g2b' hg5 (LN_lt h4))
              have hown5 := own_g hown4 hg5 hgB
              have hsz5 := B5.size
              clear hown4 hg5 h4 B4
              go_wp2_with (at_builtin; refine wpList_app rfl _ _ 24 rfl B sgT0 rfl (own_below hown5 (bal (Below.refl _ _) _)) (sgc ⟨3, c', d', a, b'⟩) rfl (sl_newN _ (by simp) rfl) (oneCell_sgc _) (by omega) (by simp; omega) ?_; intro A' c6 w6 hown6 hg6 hat6)
              go_ret
              obtain ⟨r1, r2, r3⟩ := seg_end B5 h5 hown5 hgB hg6 hown6
              exact ⟨⟨3, c', d', a, b'⟩, A', c6, rfl, r1, okd_bow ⟨hc1, hc2⟩ ⟨hd1, hd2⟩ ⟨ha1, ha2⟩ ⟨hb1, hb2⟩ (by omega), r2, r3⟩
          · have t1 : (last != 1) = true := by simpa using hl1
            go_wp2_with fail
            refine (Coord_any _ _ h1).mono ?_; rintro e w2 ⟨⟨a, rfl, ha1, ha2⟩, h2, hg2⟩
            have B2 := B1.trans (g2b' hg2 (LN_lt h1))
            have hown2 := own_g hown1 hg2 hgB
            clear hown1 hg2 h1 B1
            go_wp2_with fail
            refine (Coord_any _ _ h2).mono ?_; rintro e w3 ⟨⟨b', rfl, hb1, hb2⟩, h3, hg3⟩
            have B3 := B2.trans (g2b' hg3 (LN_lt h2))
            have hown3 := own_g hown2 hg3 hgB
            have hsz3 := B3.size
            clear hown2 hg3 h2 B2
            go_wp2_with (at_builtin; refine wpList_app rfl _ _ 24 rfl B sgT0 rfl (own_below hown3 (bal (Below.refl _ _) _)) (sgc ⟨1, a, b', 0, 0⟩) rfl (sl_newN _ (by simp) rfl) (oneCell_sgc _) (by omega) (by simp; omega) ?_; intro A' c' w4 hown4 hg4 hat4)
            go_ret
            obtain ⟨r1, r2, r3⟩ := seg_end B3 h3 hown3 hgB hg4 hown4
            exact ⟨⟨1, a, b', 0, 0⟩, A', c', rfl, r1, okd_move ⟨ha1, ha2⟩ ⟨hb1, hb2⟩ hl1, r2, r3⟩
        · have u0 : (v == 0) = false := by simpa using hv0
          by_cases hv1' : v = 1
          · subst hv1'
            have hsz1 := B1.size
            go_wp2_with (at_builtin; refine wpList_app rfl _ _ 24 rfl B sgT0 rfl (own_below hown1 (bal (Below.refl _ _) _)) (sgc ⟨4, 0, 0, 0, 0⟩) rfl (sl_newN _ (by simp) rfl) (oneCell_sgc _) (by omega) (by simp; omega) ?_; intro A' c6 w6 hown6 hg6 hat6)
            go_ret
            obtain ⟨r1, r2, r3⟩ := seg_end B1 h1 hown1 hgB hg6 hown6
            exact ⟨⟨4, 0, 0, 0, 0⟩, A', c6, rfl, r1, okd_close (by omega), r2, r3⟩
          · have u1 : (v == 1) = false := by simpa using hv1'
            by_cases hv5 : v < 5
            · cases bows
              · go_wp2_with fail
                refine (Coord_any _ _ h1).mono ?_; rintro e w2 ⟨⟨a, rfl, ha1, ha2⟩, h2, hg2⟩
                have B2 := B1.trans (g2b' hg2 (LN_lt h1))
                have hown2 := own_g hown1 hg2 hgB
                clear hown1 hg2 h1 B1
                go_wp2_with fail
                refine (Coord_any _ _ h2).mono ?_; rintro e w3 ⟨⟨b', rfl, hb1, hb2⟩, h3, hg3⟩
                have B3 := B2.trans (g2b' hg3 (LN_lt h2))
                have hown3 := own_g hown2 hg3 hgB
                have hsz3 := B3.size
                clear hown2 hg3 h2 B2
                go_wp2_with (at_builtin; refine wpList_app rfl _ _ 24 rfl B sgT0 rfl (own_below hown3 (bal (Below.refl _ _) _)) (sgc ⟨2, a, b', 0, 0⟩) rfl (sl_newN _ (by simp) rfl) (oneCell_sgc _) (by omega) (by simp; omega) ?_; intro A' c' w4 hown4 hg4 hat4)
                go_ret
                obtain ⟨r1, r2, r3⟩ := seg_end B3 h3 hown3 hgB hg4 hown4
                exact ⟨⟨2, a, b', 0, 0⟩, A', c', rfl, r1, okd_line ⟨ha1, ha2⟩ ⟨hb1, hb2⟩ ⟨hm0, hm4⟩, r2, r3⟩
              · go_wp2_with fail
                refine (Coord_any _ _ h1).mono ?_; rintro e w2 ⟨⟨a, rfl, ha1, ha2⟩, h2, hg2⟩
                have B2 := B1.trans (g2b' hg2 (LN_lt h1))
                have hown2 := own_g hown1 hg2 hgB
                clear hown1 hg2 h1 B1
                go_wp2_with fail
                refine (Coord_any _ _ h2).mono ?_; rintro e w3 ⟨⟨b', rfl, hb1, hb2⟩, h3, hg3⟩
                have B3 := B2.trans (g2b' hg3 (LN_lt h2))
                have hown3 := own_g hown2 hg3 hgB
                clear hown2 hg3 h2 B2
                go_wp2_with fail
                refine (Coord_any _ _ h3).mono ?_; rintro e w4 ⟨⟨c', rfl, hc1, hc2⟩, h4, hg4⟩
                have B4 := B3.trans (g2b' hg4 (LN_lt h3))
                have hown4 := own_g hown3 hg4 hgB
                clear hown3 hg4 h3 B3
                go_wp2_with fail
                refine (Coord_any _ _ h4).mono ?_; rintro e w5 ⟨⟨d', rfl, hd1, hd2⟩, h5, hg5⟩
                have B5 := B4.trans (g2b' hg5 (LN_lt h4))
                have hown5 := own_g hown4 hg5 hgB
                have hsz5 := B5.size
                clear hown4 hg5 h4 B4
                go_wp2_with (at_builtin; refine wpList_app rfl _ _ 24 rfl B sgT0 rfl (own_below hown5 (bal (Below.refl _ _) _)) (sgc ⟨3, c', d', a, b'⟩) rfl (sl_newN _ (by simp) rfl) (oneCell_sgc _) (by omega) (by simp; omega) ?_; intro A' c6 w6 hown6 hg6 hat6)
                go_ret
                obtain ⟨r1, r2, r3⟩ := seg_end B5 h5 hown5 hgB hg6 hown6
                exact ⟨⟨3, c', d', a, b'⟩, A', c6, rfl, r1, okd_bow ⟨hc1, hc2⟩ ⟨hd1, hd2⟩ ⟨ha1, ha2⟩ ⟨hb1, hb2⟩ (by omega), r2, r3⟩
            · go_wp2_with fail
              refine (Coord_any _ _ h1).mono ?_; rintro e w2 ⟨⟨a, rfl, ha1, ha2⟩, h2, hg2⟩
              have B2 := B1.trans (g2b' hg2 (LN_lt h1))
              have hown2 := own_g hown1 hg2 hgB
              clear hown1 hg2 h1 B1
              go_wp2_with fail
              refine (Coord_any _ _ h2).mono ?_; rintro e w3 ⟨⟨b', rfl, hb1, hb2⟩, h3, hg3⟩
              have B3 := B2.trans (g2b' hg3 (LN_lt h2))
              have hown3 := own_g hown2 hg3 hgB
              have hsz3 := B3.size
              clear hown2 hg3 h2 B2
              go_wp2_with (at_builtin; refine wpList_app rfl _ _ 24 rfl B sgT0 rfl (own_below hown3 (bal (Below.refl _ _) _)) (sgc ⟨2, a, b', 0, 0⟩) rfl (sl_newN _ (by simp) rfl) (oneCell_sgc _) (by omega) (by simp; omega) ?_; intro A' c' w4 hown4 hg4 hat4)
              go_ret
              obtain ⟨r1, r2, r3⟩ := seg_end B3 h3 hown3 hgB hg4 hown4
              exact ⟨⟨2, a, b', 0, 0⟩, A', c', rfl, r1, okd_line ⟨ha1, ha2⟩ ⟨hb1, hb2⟩ ⟨hm0, hm4⟩, r2, r3⟩

/-- A slice's length. -/
def lenOf : Value → Nat | .slice _ n _ => n | _ => 0

set_option maxHeartbeats 1000000 in
theorem Made_any (A : Option Addr) (n c : Nat) (bows : Bool) (w : World) (h : InA w A n) (hnc : n ≤ c) (hcm : c ≤ 9223372036854775807) :
    Calls Try.prog 5 #[.slice A n c, .bool bows] w
      fun e w' => ∃ l A' c', e = .returned (.slice A' l.length c') ∧ w'.ownsRow w.heap.size 42 5 (.slice A' l.length c') l.length (sgs l) ∧ MadeOK l bows ∧ Below w.heap.size w w' := by
  obtain ⟨g, hg⟩ : ∃ g, g = w.heap.size := ⟨_, rfl⟩
  have hLN : LN (w.alloc (.cells #[.slice A n c] 45)) g := LN_new h hnc hcm hg.symm
  have HG := Lib.hid hg
  have hb0 : Below g (w.alloc (.cells #[.slice A n c] 45)) (w.alloc (.cells #[.slice A n c] 45)) := Below.refl _ _
  go_enter Try.func5, Try.ntmps5
  go_wp2
  rw [← hg]
  clear hg
  go_loopw [6] (fun p wr => ∃ l A' c', p = .slice A' l.length c' ∧ LN wr g ∧ wr.ownsRow (g + 1) 42 5 (.slice A' l.length c') l.length (sgs l) ∧ Hid (MadeOK l bows) ∧ Below g (w.alloc (.cells #[.slice A n c] 45)) wr) (fun p _ => 12 - lenOf p)
  case atStart => exact ⟨[], none, 0, rfl, hLN, own_nil, MadeOK.nil _, hb0⟩
  case round =>
    obtain ⟨l, A1, c1, rfl, hN, hown, hmd, hbr⟩ := hrel
    obtain ⟨m, hm⟩ : ∃ m, l.length = m := ⟨_, rfl⟩
    rw [hm] at hown ⊢
    have hm12 : m ≤ 12 := by rw [← hm]; exact hmd.out.2.1
    have HM := Lib.hid hm
    have HN := Lib.hid hN
    have hgl := LN_lt hN
    have hgB : g + 1 ≤ wr.heap.size := hgl
    obtain ⟨A9, n9, c9, hc9, _, hn9, hc99, _, _⟩ := hN
    clear hm
    go_wp2_with (go_at_call 15; refine (seg_any g (g + 1) m c1 A1 l bows _ HN.out hown (by omega) hgB (by omega)).mono ?_; rintro e w3 ⟨s, A3, c3, rfl, hown3, hok3, hN3, hb3⟩)
    all_goals first
      | (go_roundw
         case rel =>
           have hlen : (l ++ [s]).length = m + 1 := by rw [List.length_append, HM.out]; rfl
           exact ⟨l ++ [s], A3, c3, by rw [hlen], hN3, by rw [hlen]; exact hown3, hmd.out.snoc (by rw [HM.out]; omega) hok3, hbr.trans hb3⟩
         case measure => simp [lenOf]; omega)
      | (go_ret
         refine ⟨l, A1, c1, by rw [HM.out]; rfl, by rw [HM.out, ← HG.out]; exact own_mono hown (by omega), hmd.out, ?_⟩
         have hb0 : Below w.heap.size w wr := ((Below.refl _ _).alloc (Nat.le_refl _) (.cells #[.slice A n c] 45)).trans (HG.out ▸ hbr)
         exact hb0)

end Go.Proofs.Ytbpgehaflbacmaa
