/- The walk of StrokeOn: it returns true. -/
import Derived.Test.YtfojgjmcgkdkeaaStrokeWithin
import Derived.Test.YtfojgjmcgkdkeaaAllP
import Derived.Test.YtfojgjmcgkdkeaaFlatSays
import Derived.Test.YtfojgjmcgkdkeaaCts
namespace Go.Proofs.Ytfojgjmcgkdkeaa
open Go.RowKit Go.BigFrame

set_option maxRecDepth 100000 in
set_option maxHeartbeats 2000000 in
theorem StrokeOn_any (A : Option Addr) (n c : Nat) (v : Int) (w : World) (h : InA w A n) (hnc : n ≤ c) (hcm : c ≤ 9223372036854775807) :
    Calls Try.prog 8 #[.slice A n c, .int .i64 v] w fun e w' => e = .returned (.bool true) ∧ Below w.heap.size w w' := by
  go_enter Try.func8, Try.ntmps8
  go_wp2_with fail
  refine (known33_any _).mono ?_; rintro e w1 ⟨rfl, hb1⟩
  go_wp2_with fail
  refine (Made_any A n c true w1 (h.below hb1) hnc hcm).mono ?_; rintro e w2 ⟨l, A2, c2, rfl, hown2, hmd2, hb2⟩
  have B2 : Below w.heap.size w w2 := btr hb1 hb2
  have hp2 := own_sl hown2
  have hlm := hmd2.may
  have hl12 := hmd2.2.1
  clear hb1 hb2 hown2 hmd2
  by_cases hov : 300 < (flatL l).length
  · have hE : flatE l = ([], 5) := by simp [flatE, hlm, hov]
    have HE := Lib.hid hE
    clear hE hov hlm
    go_wp2_with fail
    refine (flat_Path_any _ _ _ l _ _ (by omega) hp2 HE.out).mono ?_; rintro e w3 ⟨A3, c3, rfl, hown3, hb3⟩
    go_wp2
    go_ret
    exact ⟨rfl, btr B2 hb3⟩
  · obtain ⟨L, hL⟩ : ∃ L, flatL l = L := ⟨_, rfl⟩
    have hlen : L.length ≤ 300 := by rw [← hL]; omega
    have hE : flatE l = (L, 0) := by rw [← hL]; exact flatE_all hlm (by omega)
    have hLm : mayB L = true := by rw [← hL]; exact flatL_may hlm (by omega)
    have hLk : ∀ s ∈ L, s.kind ≠ 3 := by rw [← hL]; exact flatL_nobow hlm
    have HE := Lib.hid hE
    have HLM := Lib.hid hLm
    have HLK := Lib.hid hLk
    obtain ⟨ll, hll⟩ : ∃ x, L.length = x := ⟨_, rfl⟩
    rw [hll] at hlen
    have HLL := Lib.hid hll
    obtain ⟨cs, hcs⟩ : ∃ cs, ctsL L = cs := ⟨_, rfl⟩
    obtain ⟨nc, hnc⟩ : ∃ x, cs.length = x := ⟨_, rfl⟩
    have hnc3 : nc ≤ 300 := by have := cts_len L; rw [hcs, hnc, hll] at this; omega
    have hes : ∀ c ∈ cs, c.es.length ≤ 300 := fun c hc => by have := cts_es L c (by rw [hcs]; exact hc); omega
    have HCS := Lib.hid hcs
    have HNC := Lib.hid hnc
    have HES := Lib.hid hes
    clear hE hov hlm hL hLm hLk hll hcs hnc hes
    go_wp2_with fail
    refine (flat_Path_any _ _ _ l _ _ (by omega) hp2 HE.out).mono ?_; rintro e w3 ⟨A3, c3, rfl, hown3, hb3⟩
    have hp3 := own_sl hown3
    have B3 := btr B2 hb3
    rw [HLL.out] at hp3 ⊢
    clear hb3 hown3 hp2 B2
    go_wp2_with fail
    refine (Style_any v _).mono ?_; rintro e w4 ⟨rfl, hb4⟩
    have B4 := btr B3 hb4
    have hp4 := hp3.below hb4
    have hso := styI_ok v
    clear hb4 hp3 B3
    obtain ⟨s, hs⟩ : ∃ s, s = styI v := ⟨_, rfl⟩
    rw [← hs] at hso ⊢
    clear hs
    obtain ⟨wd, cp, jn⟩ := s
    simp only at hso
    simp only [syc]
    go_wp2_with fail
    obtain ⟨w5, hw5⟩ : ∃ w5 : World, w5 = w4.alloc (.cells #[.int .i64 wd, .int .i64 cp, .int .i64 jn] 24) := ⟨_, rfl⟩
    rw [← hw5]
    have hst : StIn w5 w4.heap.size wd cp jn := by rw [hw5]; exact StIn.new _ _ _
    have hb45 : Below w4.heap.size w4 w5 := by rw [hw5]; exact bal (Below.refl _ _) _
    have B5 := btr B4 hb45
    have hp5 := hp4.below hb45
    clear hw5 hb45 hp4 B4
    refine (Contours_any _ _ _ L cs _ (by omega) hp5 HCS.out).mono ?_; rintro e w6 ⟨A6, c6, rfl, hct, hb6⟩
    have B6 := btr B5 hb6
    have hp6 := hp5.below hb6
    have ht6 := hst.below hb6
    rw [HNC.out] at hct ⊢
    clear hb6 hp5 hst B5
    have HSO := Lib.hid hso
    clear hso
    go_wp2
    go_loopw [9] (fun i wr => ∃ k : Nat, k ≤ nc ∧ i = .int .i64 (k : Int) ∧ Below w6.heap.size w6 wr) (fun i _ => nc - (intOf i).toNat)
    case atStart => exact ⟨0, by omega, rfl, Below.refl _ _⟩
    case round =>
      obtain ⟨wo, rfl⟩ : ∃ wo : World, wo = wr := ⟨_, rfl⟩
      obtain ⟨k, hk, rfl, hbr⟩ := hrel
      by_cases hlt : k < nc
      · have hkl : k < cs.length := by rw [HNC.out]; exact hlt
        obtain ⟨b, off, Ae, ce, rfl, hb, -, -, d2, -, hsE⟩ := hct.get k hlt hkl
        obtain ⟨ct, hctk⟩ : ∃ ct, ct = cs[k] := ⟨_, rfl⟩
        have hmem : ct ∈ ctsL L := by rw [hctk, HCS.out]; exact List.getElem_mem hkl
        rw [← hctk] at d2 hsE
        obtain ⟨u, hu⟩ : ∃ u, ct.es.length = u := ⟨_, rfl⟩
        have hu3 : u ≤ 300 := by have := HES.out ct (by rw [← HCS.out]; exact hmem); omega
        rw [hu] at d2 hsE
        have HMEM := Lib.hid hmem
        have HU := Lib.hid hu
        clear hctk hmem hu hkl
        have hbs := hbr.size
        have hbo : b < wo.heap.size := by omega
        go_wp2
        go_loopw [10] (fun j wr => ∃ z : Nat, z ≤ u ∧ j = .int .i64 (z : Int) ∧ Below w6.heap.size w6 wr) (fun j _ => u - (intOf j).toNat)
        case atStart => exact ⟨0, by omega, rfl, hbr⟩
        case round =>
          obtain ⟨z, hz, rfl, hbi⟩ := hrel
          have g2 := (later_cell hbi hb).trans d2
          have hbis := hbi.size
          have hbw : b < wr.heap.size := by omega
          by_cases hzu : z < u
          · have hzl : z < ct.es.length := by rw [HU.out]; exact hzu
            obtain ⟨be, oe, rfl, hbe, e0, e1, e2, e3, e4, e5, e6⟩ := (hsE.below hbi).ed z hzu hzl
            have hin := ends_cov HMEM.out (List.getElem_mem hzl)
            obtain ⟨ed, hed⟩ : ∃ ed, ed = ct.es[z] := ⟨_, rfl⟩
            have hok := (ctsL_good L ct HMEM.out).2.1 _ (List.getElem_mem hzl)
            rw [← hed] at e0 e1 e2 e3 e4 e5 e6 hin hok
            clear hed
            obtain ⟨o1, o2, -, -, o5, o6, -⟩ := edOK_iff.1 hok
            by_cases hmv : moved ed = true
            · have hi := hin hmv ⟨wd, cp, jn⟩
              rw [← inL_made HLM.out HLK.out (s := ⟨wd, cp, jn⟩) (by have := HSO.out; simp only; omega) (by have := HSO.out; simp only; omega) (by have := HSO.out; simp only; omega) (by omega) (by omega),
                ← inL_made HLM.out HLK.out (s := ⟨wd, cp, jn⟩) (by have := HSO.out; simp only; omega) (by have := HSO.out; simp only; omega) (by have := HSO.out; simp only; omega) (by omega) (by omega)] at hi
              obtain ⟨hi1, hi2⟩ := hi
              have HB := Lib.hid hi1
              have HE2 := Lib.hid hi2
              have hq : (ed.x0 != ed.x1) = true ∨ ((ed.x0 != ed.x1) = false ∧ (ed.y0 != ed.y1) = true) := by
                by_cases hx1 : ed.x0 = ed.x1
                · right
                  refine ⟨by simp [hx1], ?_⟩
                  simp only [moved, Bool.or_eq_true, Bool.not_eq_true', beq_eq_false_iff_ne, ne_eq] at hmv
                  simp; omega
                · left; simpa using hx1
              have s0 := (later_cell (bal hbi (.cells #[.int .i64 ed.x0, .int .i64 ed.y0, .bool ed.bent, .int .i64 ed.cx, .int .i64 ed.cy, .int .i64 ed.x1, .int .i64 ed.y1] 37)) ht6.lt).trans ht6.c0
              have s1 := (later_cell (bal hbi (.cells #[.int .i64 ed.x0, .int .i64 ed.y0, .bool ed.bent, .int .i64 ed.cx, .int .i64 ed.cy, .int .i64 ed.x1, .int .i64 ed.y1] 37)) ht6.lt).trans ht6.c1
              have s2 := (later_cell (bal hbi (.cells #[.int .i64 ed.x0, .int .i64 ed.y0, .bool ed.bent, .int .i64 ed.cx, .int .i64 ed.cy, .int .i64 ed.x1, .int .i64 ed.y1] 37)) ht6.lt).trans ht6.c2
              have n5 := new_cell (w := wr) (t := 37) #[.int .i64 ed.x0, .int .i64 ed.y0, .bool ed.bent, .int .i64 ed.cx, .int .i64 ed.cy, .int .i64 ed.x1, .int .i64 ed.y1] 5
              have n6 := new_cell (w := wr) (t := 37) #[.int .i64 ed.x0, .int .i64 ed.y0, .bool ed.bent, .int .i64 ed.cx, .int .i64 ed.cy, .int .i64 ed.x1, .int .i64 ed.y1] 6
              clear hi1 hi2 hmv hin hok o1 o2 o5 o6
              rcases hq with q1 | ⟨q1, q2⟩
              · go_wp2_with fail
                refine (In_st (r := true) _ (HB.out) (by omega) (hp6.below (btr (bal hbi _) (Below.refl _ _)))).mono ?_; rintro e wa ⟨rfl, hba⟩
                have hz1 : wr.heap.size < (wr.alloc (.cells #[.int .i64 ed.x0, .int .i64 ed.y0, .bool ed.bent, .int .i64 ed.cx, .int .i64 ed.cy, .int .i64 ed.x1, .int .i64 ed.y1] 37)).heap.size := by simp
                replace n5 := (later_cell hba hz1).trans n5
                replace n6 := (later_cell hba hz1).trans n6
                have s0 := (later_cell (btr (bal hbi _) hba) ht6.lt).trans ht6.c0
                have s1 := (later_cell (btr (bal hbi _) hba) ht6.lt).trans ht6.c1
                have s2 := (later_cell (btr (bal hbi _) hba) ht6.lt).trans ht6.c2
                go_wp2_with fail
                refine (In_st (r := true) _ (HE2.out) (by omega) (hp6.below (btr (bal hbi _) hba))).mono ?_; rintro e wb ⟨rfl, hbb⟩
                go_wp2
                go_roundw
                case rel => exact ⟨z + 1, by omega, by go_num, btr (btr (bal hbi _) hba) hbb⟩
                case measure => simp [intOf]; omega
              · go_wp2_with fail
                refine (In_st (r := true) _ (HB.out) (by omega) (hp6.below (btr (bal hbi _) (Below.refl _ _)))).mono ?_; rintro e wa ⟨rfl, hba⟩
                have hz1 : wr.heap.size < (wr.alloc (.cells #[.int .i64 ed.x0, .int .i64 ed.y0, .bool ed.bent, .int .i64 ed.cx, .int .i64 ed.cy, .int .i64 ed.x1, .int .i64 ed.y1] 37)).heap.size := by simp
                replace n5 := (later_cell hba hz1).trans n5
                replace n6 := (later_cell hba hz1).trans n6
                have s0 := (later_cell (btr (bal hbi _) hba) ht6.lt).trans ht6.c0
                have s1 := (later_cell (btr (bal hbi _) hba) ht6.lt).trans ht6.c1
                have s2 := (later_cell (btr (bal hbi _) hba) ht6.lt).trans ht6.c2
                go_wp2_with fail
                refine (In_st (r := true) _ (HE2.out) (by omega) (hp6.below (btr (bal hbi _) hba))).mono ?_; rintro e wb ⟨rfl, hbb⟩
                go_wp2
                go_roundw
                case rel => exact ⟨z + 1, by omega, by go_num, btr (btr (bal hbi _) hba) hbb⟩
                case measure => simp [intOf]; omega
            · have hst : ed.x0 = ed.x1 ∧ ed.y0 = ed.y1 := moved_no (by cases h : moved ed; rfl; exact absurd h hmv)
              have q3 : (ed.x0 != ed.x1) = false := by simp [hst.1]
              have q4 : (ed.y0 != ed.y1) = false := by simp [hst.2]
              clear hin hmv hst hok o1 o2 o5 o6
              go_wp2
              go_roundw
              case rel => exact ⟨z + 1, by omega, by go_num, bal hbi _⟩
              case measure => simp [intOf]; omega
          · obtain rfl : z = u := by omega
            go_wp2
            go_roundw
            case rel => exact ⟨k + 1, by omega, by go_num, hbi⟩
            case measure => simp [intOf]; omega
      · obtain rfl : k = nc := by omega
        go_wp2
        go_ret
        exact ⟨rfl, btr B6 hbr⟩
end Go.Proofs.Ytfojgjmcgkdkeaa
