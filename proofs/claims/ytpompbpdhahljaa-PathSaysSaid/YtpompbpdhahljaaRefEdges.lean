/- tympanref25.Edges. -/
import Derived.Test.YtpompbpdhahljaaRefLast
import Derived.Test.YtpompbpdhahljaaPEdges
import Derived.Deep.RegionLaw
namespace Go.Proofs.Ytpompbpdhahljaa
open Go.RowKit

set_option maxRecDepth 100000 in
set_option maxHeartbeats 4000000 in
theorem ref_Edges_any (A : Option Addr) (n c : Nat) (l : List Sg) (el : List Ed) (w : World) (hm : n ≤ 1000000) (h : Sl w 5 A n (sgs l)) (hel : edgesL l = el) :
    Calls Try.prog 41 #[.slice A n c] w fun e w' => ∃ A' c', e = .returned (.slice A' el.length c') ∧ w'.ownsRow w.heap.size 25 7 (.slice A' el.length c') el.length (eds el) ∧ Below w.heap.size w w' ∧ el.length ≤ 100000 := by
  have hl := h.sglen
  obtain ⟨cs, hcs⟩ : ∃ cs, ctsL l = cs := ⟨_, rfl⟩
  have hcl : cs.length ≤ 300 ∧ ∀ c ∈ cs, c.es.length ≤ 300 := by
    rw [← hcs]
    cases hmy : mayB l
    · simp [ctsL, hmy]
    · have h3 := (mayB_from hmy).2
      exact ⟨by have := cts_len l; omega, fun c hc => by have := cts_es l c hc; omega⟩
  obtain ⟨hcl, hes⟩ := hcl
  have hall : cs.flatMap edgesC = el := by rw [← hel, ← hcs]; rfl
  have hle : ∀ k, ((cs.take k).flatMap edgesC).length ≤ 100000 := fun k => by
    have h1 := edges_len (cs.take k) 300 (fun c hc => hes c (List.mem_of_mem_take hc))
    have h2 : (cs.take k).length ≤ 300 := by rw [List.length_take]; omega
    have h3 : (cs.take k).length * (300 + 1) ≤ 300 * (300 + 1) := Nat.mul_le_mul_right _ h2
    omega
  have HES := Lib.hid hes
  have HALL := Lib.hid hall
  have HLE := Lib.hid hle
  go_enter Try.func41, Try.ntmps41
  go_wp2_with (go_at_call 40; refine (ref_Contours_any _ _ _ l cs _ hm h hcs).mono ?_; rintro e w1 ⟨A1, c1, rfl, hct, hb1⟩)
  clear hes hall hle hel hcs h hl hm
  go_loopw [3, 5] (fun out i wr => ∃ k m A' c', k ≤ cs.length ∧ m ≤ 100000 ∧ out = .slice A' m c' ∧ i = .int .i64 (k : Int) ∧ Below w1.heap.size w1 wr ∧ Hid (((cs.take k).flatMap edgesC).length = m) ∧
    wr.ownsRow w1.heap.size 25 7 (.slice A' m c') m (eds ((cs.take k).flatMap edgesC))) (fun _ i _ => cs.length - (intOf i).toNat)
  case atStart => exact ⟨0, 0, none, 0, by omega, by omega, rfl, rfl, Below.refl _ _, rfl, own_nil⟩
  case round =>
    obtain ⟨wo, rfl⟩ : ∃ wo : World, wo = wr := ⟨_, rfl⟩
    obtain ⟨k, m, A2, c2, hk, hm3, rfl, rfl, hbr, hml, hown⟩ := hrel
    have hsz := hbr.size
    by_cases hlt : k < cs.length
    · obtain ⟨ba, off, Ae, ce, rfl, hba, x0', x1', x2', x3', hse⟩ := hct.get k hlt hlt
      have x0 := (later_cell hbr hba).trans x0'
      have x1 := (later_cell hbr hba).trans x1'
      have x2 := (later_cell hbr hba).trans x2'
      have x3 := (later_cell hbr hba).trans x3'
      have hsucc := flatMap_take_succ edgesC cs k hlt
      have hle := HLE.out (k + 1)
      have hul := HES.out cs[k] (List.getElem_mem hlt)
      obtain ⟨ct, hctk⟩ : ∃ ct, ct = cs[k] := ⟨_, rfl⟩
      rw [← hctk] at x0 x1 x2 x3 x0' x1' x2' x3' hse hsucc hul
      obtain ⟨u, hu⟩ : ∃ u, ct.es.length = u := ⟨_, rfl⟩
      rw [hu] at x2 x2' hse hul
      obtain ⟨O, hO⟩ : ∃ O, O = (cs.take k).flatMap edgesC := ⟨_, rfl⟩
      rw [← hO] at hown hml hsucc
      have HSUCC := Lib.hid hsucc
      have HLE1 := Lib.hid hle
      have HU := Lib.hid hu
      clear hsucc hle hctk hO hu
      have hsE := hse.below hbr
      obtain ⟨ex, hex⟩ : ∃ v, v = endX ct.x ct.es := ⟨_, rfl⟩
      obtain ⟨ey, hey⟩ : ∃ v, v = endY ct.y ct.es := ⟨_, rfl⟩
      have HCL := Lib.hid (show closeC ct = if ex = ct.x ∧ ey = ct.y then [] else [⟨ex, ey, false, 0, 0, ct.x, ct.y⟩] by rw [hex, hey]; rfl)
      have HEX := Lib.hid hex
      have HEY := Lib.hid hey
      clear hex hey
      go_wp2_with (at_builtin; refine wpList_app rfl _ _ 30 rfl w1.heap.size edT rfl hown (eds ct.es) rfl hsE (oneCell_eds _) (by omega) hbr.size ?_; intro A3 c3 w3 hown3 hg3 hat3; have hb3 : Below w1.heap.size w1 w3 := grown_below hbr hg3 hown; have k0 := (later_cell hb3 hba).trans x0'; have k1 := (later_cell hb3 hba).trans x1'; have k2 := (later_cell hb3 hba).trans x2'; have k3 := (later_cell hb3 hba).trans x3')
      refine (clast_any ct.x ct.y Ae u ce ct.shut ct.es _ (by omega) (hse.below hb3)).mono ?_; rintro e w4 ⟨rfl, hb4⟩
      rw [← HEX.out, ← HEY.out]
      have hb4' := btr hb3 hb4
      have hown4 := own_below hown3 hb4
      have z0 := (later_cell hb4' hba).trans x0'
      have z1 := (later_cell hb4' hba).trans x1'
      have hs4 := hb4'.size
      clear x0 x1 x2 x3 k0 k1 k2 k3 hg3 hat3 hown hown3 hb4
      by_cases hc : ex = ct.x ∧ ey = ct.y
      · have HL2 := Lib.hid (show ((cs.take (k + 1)).flatMap edgesC) = O ++ ct.es by rw [HSUCC.out]; unfold edgesC; rw [HCL.out, if_pos hc, List.append_nil])
        obtain ⟨hc1, hc2⟩ := hc
        have b1 : (ex != ct.x) = false := by simp [hc1]
        have b2 : (ey != ct.y) = false := by simp [hc2]
        have b3 : (ex == ct.x) = true := by simp [hc1]
        have b4 : (ey == ct.y) = true := by simp [hc2]
        clear HCL HSUCC hc1 hc2
        go_wp2_with fail
        go_roundw
        case rel => exact ⟨k + 1, m + u, A3, c3, by omega, by have := HLE1.out; rw [HL2.out, List.length_append, hml.out, HU.out] at this; exact this, rfl, by go_num, hb4', Lib.hid (by rw [HL2.out, List.length_append, hml.out, HU.out]), by rw [HL2.out, eds_app]; exact hown4⟩
        case measure => simp [intOf]; omega
      · have HL2 := Lib.hid (show ((cs.take (k + 1)).flatMap edgesC) = O ++ ct.es ++ [⟨ex, ey, false, 0, 0, ct.x, ct.y⟩] by rw [HSUCC.out]; unfold edgesC; rw [HCL.out, if_neg hc, List.append_assoc])
        clear HCL HSUCC
        have hlen : ((cs.take (k + 1)).flatMap edgesC).length = m + u + 1 := by rw [HL2.out, List.length_append, List.length_append, hml.out, HU.out]; rfl
        have hl9 := HLE1.out
        rw [hlen] at hl9
        have HLEN := Lib.hid hlen
        clear hlen
        by_cases hx : ex = ct.x
        · have hy : ¬ ey = ct.y := fun e => hc ⟨hx, e⟩
          have b0 : (ex != ct.x) = false := by simp [hx]
          have b1 : (ex == ct.x) = true := by simp [hx]
          have b2 : (ey == ct.y) = false := by simp [hy]
          have b3 : (ey != ct.y) = true := by simp [hy]
          clear hc hy hx
          go_wp2_with fail
          go_region_law ((refine step_app (by rfl) _ _ 30 (by rfl) w1.heap.size edT (by rfl) (own_below hown4 (by repeat (first | exact Below.refl _ _ | refine bal ?_ _ | refine bdrew ?_ | refine bdrewN ?_ _))) (edc ⟨ex, ey, false, 0, 0, ct.x, ct.y⟩) (by rfl) (sl_newN _ (by simp) rfl) (oneCell_edc _) (by omega) (by simp; omega) ?_; intro A5 c5 w5 hown5 hg5 hat5))
          all_goals
            go_wp2_with fail
            go_roundw
            case rel => exact ⟨k + 1, m + u + 1, A5, c5, by omega, hl9, rfl, by go_num, grown_below (by repeat (first | exact hb4' | refine bal ?_ _ | refine bdrew ?_ | refine bdrewN ?_ _)) hg5 (own_below hown4 (by repeat (first | exact Below.refl _ _ | refine bal ?_ _ | refine bdrew ?_ | refine bdrewN ?_ _))), HLEN, by rw [HL2.out, eds_app, eds_app, eds_one]; exact hown5⟩
            case measure => simp [intOf]; omega
        · have b2 : (ex == ct.x) = false := by simp [hx]
          have b3 : (ex != ct.x) = true := by simp [hx]
          clear hc hx
          go_wp2_with fail
          go_region_law ((refine step_app (by rfl) _ _ 30 (by rfl) w1.heap.size edT (by rfl) (own_below hown4 (by repeat (first | exact Below.refl _ _ | refine bal ?_ _ | refine bdrew ?_ | refine bdrewN ?_ _))) (edc ⟨ex, ey, false, 0, 0, ct.x, ct.y⟩) (by rfl) (sl_newN _ (by simp) rfl) (oneCell_edc _) (by omega) (by simp; omega) ?_; intro A5 c5 w5 hown5 hg5 hat5))
          all_goals
            go_wp2_with fail
            go_roundw
            case rel => exact ⟨k + 1, m + u + 1, A5, c5, by omega, hl9, rfl, by go_num, grown_below (by repeat (first | exact hb4' | refine bal ?_ _ | refine bdrew ?_ | refine bdrewN ?_ _)) hg5 (own_below hown4 (by repeat (first | exact Below.refl _ _ | refine bal ?_ _ | refine bdrew ?_ | refine bdrewN ?_ _))), HLEN, by rw [HL2.out, eds_app, eds_app, eds_one]; exact hown5⟩
            case measure => simp [intOf]; omega
    · obtain rfl : k = cs.length := by omega
      have htake : cs.take cs.length = cs := List.take_of_length_le (Nat.le_refl _)
      rw [htake, HALL.out] at hml hown
      clear htake
      go_wp2
      go_ret
      rw [hml.out]
      exact ⟨A2, c2, rfl, own_mono hown hb1.size, btr hb1 hbr, hm3⟩

end Go.Proofs.Ytpompbpdhahljaa
