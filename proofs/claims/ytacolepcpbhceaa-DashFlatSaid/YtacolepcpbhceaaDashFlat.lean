/- The walk of DashFlat: it returns true. -/
import Derived.Test.YtacolepcpbhceaaDash7
import Derived.Test.YtacolepcpbhceaaStrokeJoins
import Derived.Test.YtacolepcpbhceaaDashFlatP
import Derived.Test.YtacolepcpbhceaaStrokeOnP
import Derived.Test.YtacolepcpbhceaaFlatPath
import Derived.Test.YtacolepcpbhceaaAllP
import Derived.Test.YtacolepcpbhceaaCts
namespace Go.Proofs.Ytacolepcpbhceaa
open Go.RowKit Go.BigFrame

theorem flat_Path_is (A : Option Addr) (n c : Nat) (l : List Sg) (E : List Sg × Int) (w : World) (hm : n ≤ 1000000) (h : Sl w 5 A n (sgs l)) (hE : flatE l = E) :
    Calls Try.prog 25 #[.slice A n c] w fun e w' => ∃ A' c', e = .returned (.tuple #[.slice A' E.1.length c', .int .i64 E.2]) ∧
      w'.ownsRow w.heap.size 36 5 (.slice A' E.1.length c') E.1.length (sgs E.1) ∧ Below w.heap.size w w' := by
  subst hE
  rcases Bool.eq_false_or_eq_true (mayB l) with hok | hok
  · exact flat_Path_yes A n c l w hm h hok
  · exact flat_Path_no A n c l w hm h hok
theorem cut_two {on : List Int} {f : Int} {l L : List Sg} {er : Int} (hn : on ≠ []) (h : cutL on f l = (L, er)) : (er = 5 ∧ L = []) ∨ (er = 0 ∧ L = dashL on f l ∧ (dashL on f l).length ≤ 300) := by
  unfold cutL at h
  split at h
  · rename_i h0; exact absurd h0 hn
  · split at h
    · obtain ⟨a, b⟩ := Prod.mk.inj h; exact .inl ⟨b.symm, a.symm⟩
    · obtain ⟨a, b⟩ := Prod.mk.inj h; exact .inr ⟨b.symm, a.symm, by omega⟩

set_option maxRecDepth 100000 in
set_option maxHeartbeats 4000000 in
theorem DashFlat_any (A : Option Addr) (n c : Nat) (A' : Option Addr) (n' c' : Nat) (from_ : Int) (w : World) (h : InA w A n) (hnc : n ≤ c) (hcm : c ≤ 9223372036854775807)
    (h' : InA w A' n') (hnc' : n' ≤ c') (hcm' : c' ≤ 9223372036854775807) :
    Calls Try.prog 10 #[.slice A n c, .slice A' n' c', .int .i64 from_] w fun e w' => e = .returned (.bool true) ∧ Below w.heap.size w w' := by
  go_enter Try.func10, Try.ntmps10
  go_wp2_with fail
  refine (known35_any _).mono ?_; rintro e w1 ⟨rfl, hb1⟩
  go_wp2_with fail
  refine (Made_any A n c true w1 (h.below hb1) hnc hcm).mono ?_; rintro e w2 ⟨l, A2, c2, rfl, hown2, hmd2, hb2⟩
  have B2 : Below w.heap.size w w2 := btr hb1 hb2
  have hp2 := own_sl hown2
  have hlm := hmd2.may
  have hl12 := hmd2.2.1
  clear hb1 hb2 hown2 hmd2
  obtain ⟨⟨L, e0⟩, hE⟩ : ∃ p, flatE l = p := ⟨_, rfl⟩
  have hE2 : e0 = 5 ∨ (e0 = 0 ∧ mayB L = true ∧ (∀ s ∈ L, s.kind ≠ 3) ∧ L.length ≤ 300) := by
    by_cases hov : 300 < (flatL l).length
    · have hx : flatE l = ([], 5) := by simp [flatE, hlm, hov]
      rw [hx] at hE; exact .inl (Prod.mk.inj hE).2.symm
    · have hx := flatE_all hlm (by omega)
      rw [hx] at hE
      obtain ⟨a, b⟩ := Prod.mk.inj hE
      subst a
      exact .inr ⟨b.symm, flatL_may hlm (by omega), flatL_nobow hlm, by omega⟩
  obtain ⟨ll, hll⟩ : ∃ x, L.length = x := ⟨_, rfl⟩
  have HLL := Lib.hid hll
  have HE := Lib.hid hE
  have HE2 := Lib.hid hE2
  clear hE hE2 hlm hll
  go_wp2_with fail
  refine (flat_Path_is _ _ _ l _ _ (by omega) hp2 HE.out).mono ?_; rintro e w3 ⟨A3, c3, rfl, hown3, hb3⟩
  simp only at hown3
  have hp3 := own_sl hown3
  have B3 := btr B2 hb3
  rw [HLL.out] at hp3 ⊢
  clear hb3 hown3 hp2 B2
  go_wp2_with fail
  refine (Lengths_any A' n' c' w3 (h'.below B3) hnc' hcm').mono ?_; rintro e w4 ⟨on, A4, c4, rfl, hown4, hlo, hb4⟩
  have B4 := btr B3 hb4
  have hp4 := hp3.below hb4
  have ho4 := own_sl hown4
  clear hb4 hown4 hp3 B3
  obtain ⟨ol, hol⟩ : ∃ x, on.length = x := ⟨_, rfl⟩
  rw [hol] at ho4 ⊢
  have HON : Hid (OnOK on) := hlo.1
  have hol1 : on = [] ∨ on ≠ [] := by cases on <;> simp
  have HOL := Lib.hid hol
  clear hol hlo
  rcases HE2.out with rfl | ⟨rfl, hlm, hlk, hl3⟩
  · go_wp2
    go_ret
    exact ⟨rfl, B4⟩
  have HLM := Lib.hid hlm
  have HLK := Lib.hid hlk
  rw [HLL.out] at hl3
  clear hlm hlk HE2 HE
  rcases hol1 with hz | hnz
  · have hz0 : ol = 0 := by rw [← HOL.out, hz]; rfl
    subst hz0
    go_wp2
    go_ret
    exact ⟨rfl, B4⟩
  have hnz0 : ¬ ol = 0 := by rw [← HOL.out]; simpa using hnz
  have hrow : Row on := by
    rcases HON.out with hz | hz
    · exact absurd hz hnz
    · exact hz.1
  have HROW := Lib.hid hrow
  have HNZ := Lib.hid hnz
  clear hnz hrow
  go_wp2_with fail
  refine (Place_any from_ 800 _ (by omega) (by omega)).mono ?_; rintro e w' ⟨rfl, rfl⟩
  have hf : 0 ≤ placeI from_ 800 ∧ placeI from_ 800 < 800 := by unfold placeI; omega
  generalize placeI from_ 800 = f at *
  obtain ⟨⟨D, er⟩, hD⟩ : ∃ p, cutL on f L = p := ⟨_, rfl⟩
  have herr := cut_two HNZ.out hD
  obtain ⟨dl, hdl⟩ : ∃ x, D.length = x := ⟨_, rfl⟩
  have HD := Lib.hid hD
  have HDL := Lib.hid hdl
  have HERR := Lib.hid herr
  clear hD hdl herr
  go_wp2_with fail
  refine (Cut_is _ _ _ _ _ _ L on f D er dl _ hp4 HLM.out HLK.out ho4 HON.out (by omega) HD.out HDL.out).mono ?_
  rintro e w6 ⟨A6, c6, rfl, hown6, hb6⟩
  have B6 := btr B4 hb6
  have hp6 := hp4.below hb6
  have hx6 := own_sl hown6
  clear hb6 hown6 hp4 ho4 B4
  rcases HERR.out with ⟨rfl, hd1⟩ | ⟨rfl, hd1, hd2⟩
  · have hz0 : dl = 0 := by rw [← HDL.out, hd1]; rfl
    subst hz0
    clear hd1 HERR
    go_wp2
    go_ret
    exact ⟨rfl, B6⟩
  subst hd1
  have hdm := dashL_may HROW.out f HLK.out hd2
  have hdl3 : dl ≤ 300 := by rw [← HDL.out]; exact hd2
  obtain ⟨cs, hcs⟩ : ∃ cs, ctsL (dashL on f L) = cs := ⟨_, rfl⟩
  have hlaw : ∀ d ∈ cs, GoodC d ∧ d.es ≠ [] ∧ d.shut = false ∧ inL L s4 d.x d.y = true ∧ inL L s4 (endX d.x d.es) (endY d.y d.es) = true := by
    rw [← hcs, hdm.2]; exact flat_law HROW.out f HLM.out HLK.out
  obtain ⟨nc, hnc2⟩ : ∃ x, cs.length = x := ⟨_, rfl⟩
  have hnc3 : nc ≤ 300 := by have := cts_len (dashL on f L); rw [hcs, hnc2] at this; omega
  have hes : ∀ c ∈ cs, c.es.length ≤ 300 := fun c hc => by have := cts_es (dashL on f L) c (by rw [hcs]; exact hc); omega
  have HCS := Lib.hid hcs
  have HNC := Lib.hid hnc2
  have HES := Lib.hid hes
  have HLAW := Lib.hid hlaw
  clear hcs hnc2 hes hlaw hdm hd2 HERR
  go_wp2_with fail
  obtain ⟨w7, hw7⟩ : ∃ w7 : World, w7 = w6.alloc (.cells #[.int .i64 4, .int .i64 1, .int .i64 1] 58) := ⟨_, rfl⟩
  rw [← hw7]
  have hlt7 : w6.heap.size < w7.heap.size := by rw [hw7]; simp
  have s0 : w7.cell? ⟨w6.heap.size, 0, none⟩ = some (.int .i64 4) := by rw [hw7]; exact new_cell _ 0
  have s1 : w7.cell? ⟨w6.heap.size, 1, none⟩ = some (.int .i64 1) := by rw [hw7]; exact new_cell _ 1
  have s2 : w7.cell? ⟨w6.heap.size, 2, none⟩ = some (.int .i64 1) := by rw [hw7]; exact new_cell _ 2
  have hb67 : Below w6.heap.size w6 w7 := by rw [hw7]; exact bal (Below.refl _ _) _
  have B7 := btr B6 hb67
  have hp7 := hp6.below hb67
  have hx7 := hx6.below hb67
  clear hw7 hb67 hp6 hx6 B6
  refine (Contours_any _ _ _ (dashL on f L) cs _ (by omega) hx7 HCS.out).mono ?_; rintro e w8 ⟨A8, c8, rfl, hct, hb8⟩
  have B8 := btr B7 hb8
  have hp8 := hp7.below hb8
  have hlt8 : w6.heap.size < w8.heap.size := Nat.lt_of_lt_of_le hlt7 hb8.size
  replace s0 := (later_cell hb8 hlt7).trans s0
  replace s1 := (later_cell hb8 hlt7).trans s1
  replace s2 := (later_cell hb8 hlt7).trans s2
  rw [HNC.out] at hct ⊢
  clear hb8 hp7 hx7 B7 hlt7
  go_wp2
  go_loopw [14] (fun i wr => ∃ k : Nat, k ≤ nc ∧ i = .int .i64 (k : Int) ∧ Below w8.heap.size w8 wr) (fun i _ => nc - (intOf i).toNat)
  case atStart => exact ⟨0, by omega, rfl, Below.refl _ _⟩
  case round =>
    obtain ⟨k, hk, rfl, hbr⟩ := hrel
    by_cases hlt : k < nc
    · have hkl : k < cs.length := by rw [HNC.out]; exact hlt
      obtain ⟨b, off, Ae, ce, rfl, hb, d0, d1, d2, d3, hsE⟩ := hct.get k hlt hkl
      obtain ⟨ct, hctk⟩ : ∃ ct, ct = cs[k] := ⟨_, rfl⟩
      have hmem : ct ∈ cs := by rw [hctk]; exact List.getElem_mem hkl
      rw [← hctk] at d0 d1 d2 d3 hsE
      obtain ⟨a1, a2, a3, a4, a5⟩ := HLAW.out ct hmem
      obtain ⟨u, hu⟩ : ∃ u, ct.es.length = u + 1 := ⟨ct.es.length - 1, by have := List.length_pos_iff.2 a2; omega⟩
      have hu3 : u + 1 ≤ 300 := by have := HES.out ct hmem; omega
      have hul : u < ct.es.length := by omega
      have hx1 : endX ct.x ct.es = ct.es[u].x1 := by
        rw [endX_get _ _ (by omega)]; congr 1; simp [hu]
      have hy1 : endY ct.y ct.es = ct.es[u].y1 := by
        unfold endY; rw [List.getLast?_eq_getElem?, List.getElem?_eq_getElem (by omega)]; simp [hu]
      rw [hx1, hy1] at a5
      rw [a3] at d3
      rw [hu] at d2 hsE
      obtain ⟨be, oe, rfl, hbe, -, -, -, -, -, e5, e6⟩ := hsE.ed u (by omega) hul
      obtain ⟨ed, hed⟩ : ∃ ed, ed = ct.es[u] := ⟨_, rfl⟩
      rw [← hed] at e5 e6 a5
      clear hed hctk hx1 hy1 a1 a2 a3 hmem hul hu
      have D0 := fun g : Grown wr => (later_cell (btr hbr g.below) hb).trans d0
      have D1 := fun g : Grown wr => (later_cell (btr hbr g.below) hb).trans d1
      have D2 := fun g : Grown wr => (later_cell (btr hbr g.below) hb).trans d2
      have D3 := fun g : Grown wr => (later_cell (btr hbr g.below) hb).trans d3
      have E5 := fun g : Grown wr => (later_cell (btr hbr g.below) hbe).trans e5
      have E6 := fun g : Grown wr => (later_cell (btr hbr g.below) hbe).trans e6
      have S0 := fun g : Grown wr => (later_cell (btr hbr g.below) hlt8).trans s0
      have S1 := fun g : Grown wr => (later_cell (btr hbr g.below) hlt8).trans s1
      have S2 := fun g : Grown wr => (later_cell (btr hbr g.below) hlt8).trans s2
      have g2 := (later_cell hbr hb).trans d2
      have hP := fun g : Grown wr => hp8.below (btr hbr g.below)
      have C1 := Lib.hid fun W (hs : Sl W 5 A3 ll (sgs L)) => In_st (wd := 4) (cp := 1) (jn := 1) (c := c3) W a4 (by omega) hs
      have C2 := Lib.hid fun W (hs : Sl W 5 A3 ll (sgs L)) => In_st (wd := 4) (cp := 1) (jn := 1) (c := c3) W a5 (by omega) hs
      clear a4 a5
      have hi0 : decide ((u : Int) < 0) = false := by simp
      have hiu : (((u + 1 : Nat) : Int) - 1) = (u : Int) := by omega
      go_wp2_with fail
      refine wp_region_grown (by kernel_rfl) (by kernel_rfl) ?_
      repeat (go_big_quiet_step (first
        | (go_at_call 24; with_reducible exact Calls.grown (C1.out _ (hP _)))
        | (go_at_call 24; with_reducible exact Calls.grown (C2.out _ (hP _)))))
      refine wpQuiet_nil ?_
      intro _ hw'
      obtain ⟨xq, hw''⟩ := hw'
      subst hw''
      go_wp2
      go_roundw
      case rel => exact ⟨k + 1, by omega, by go_num, btr hbr xq.below⟩
      case measure => simp [intOf]; omega
    · obtain rfl : k = nc := by omega
      go_wp2
      go_ret
      exact ⟨rfl, btr B8 hbr⟩
end Go.Proofs.Ytacolepcpbhceaa
