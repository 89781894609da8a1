/- path.Edges: what it returns, and that what was there is as it was. -/
import Derived.Test.YtpompbpdhahljaaCts
import Derived.Test.YtpompbpdhahljaaJoinP
import Derived.Test.YtpompbpdhahljaaEdges
namespace Go.Proofs.Ytpompbpdhahljaa
open Go.RowKit

theorem flatMap_take_succ {α β : Type} (f : α → List β) (cs : List α) (k : Nat) (h : k < cs.length) : (cs.take (k + 1)).flatMap f = (cs.take k).flatMap f ++ f cs[k] := by
  rw [List.take_succ_eq_append_getElem h, List.flatMap_append]; simp
theorem edgesC_len (c : Ct) : (edgesC c).length ≤ c.es.length + 1 := by
  unfold edgesC closeC; split <;> simp
theorem edges_len : ∀ (cs : List Ct) (b : Nat), (∀ c ∈ cs, c.es.length ≤ b) → (cs.flatMap edgesC).length ≤ cs.length * (b + 1)
  | [], _, _ => by simp
  | c :: cs, b, h => by
    have h1 := edges_len cs b (fun d hd => h d (by simp [hd]))
    have h2 := edgesC_len c
    have h3 := h c (by simp)
    rw [List.flatMap_cons, List.length_append, List.length_cons, Nat.add_mul, Nat.one_mul]
    omega

set_option maxRecDepth 100000 in
set_option maxHeartbeats 4000000 in
theorem PEdges_any (A : Option Addr) (n c : Nat) (l : List Sg) (el : List Ed) (w : World) (hm : n ≤ 1000000) (h : Sl w 5 A n (sgs l)) (hel : edgesL l = el) :
    Calls Try.prog 33 #[.slice A n c] w fun e w' => ∃ A' c', e = .returned (.slice A' el.length c') ∧ w'.ownsRow w.heap.size 25 7 (.slice A' el.length c') el.length (eds el) ∧ Below w.heap.size w w' ∧ el.length ≤ 100000 := by
  have hl := h.sglen
  obtain ⟨cs, hcs⟩ : ∃ cs, ctsL l = cs := ⟨_, rfl⟩
  have hcl : cs.length ≤ 300 ∧ ∀ c ∈ cs, c.es.length ≤ 300 := by
    rw [← hcs]
    cases hmy : mayB l
    · simp [ctsL, hmy]
    · have h3 := (mayB_from hmy).2
      exact ⟨by have := cts_len l; omega, fun c hc => by have := cts_es l c hc; omega⟩
  obtain ⟨hcl, hes⟩ := hcl
  have hall : cs.flatMap edgesC = el := by rw [← hel, ← hcs]; rfl
  have hle : ∀ k, ((cs.take k).flatMap edgesC).length ≤ 100000 := fun k => by
    have h1 := edges_len (cs.take k) 300 (fun c hc => hes c (List.mem_of_mem_take hc))
    have h2 : (cs.take k).length ≤ 300 := by rw [List.length_take]; omega
    have h3 : (cs.take k).length * (300 + 1) ≤ 300 * (300 + 1) := Nat.mul_le_mul_right _ h2
    omega
  have HES := Lib.hid hes
  have HALL := Lib.hid hall
  have HLE := Lib.hid hle
  go_enter Try.func33, Try.ntmps33
  go_wp2_with (go_at_call 29; refine (Contours_any _ _ _ l cs _ hm h hcs).mono ?_; rintro e w1 ⟨A1, c1, rfl, hct, hb1⟩)
  clear hes hall hle hel hcs h hl hm
  go_loopw [3, 10] (fun out i wr => ∃ k m A' c', k ≤ cs.length ∧ m ≤ 100000 ∧ out = .slice A' m c' ∧ i = .int .i64 (k : Int) ∧ Below w1.heap.size w1 wr ∧ Hid (((cs.take k).flatMap edgesC).length = m) ∧
    wr.ownsRow w1.heap.size 25 7 (.slice A' m c') m (eds ((cs.take k).flatMap edgesC))) (fun _ i _ => cs.length - (intOf i).toNat)
  case atStart => exact ⟨0, 0, none, 0, by omega, by omega, rfl, rfl, Below.refl _ _, rfl, own_nil⟩
  case round =>
    obtain ⟨wo, rfl⟩ : ∃ wo : World, wo = wr := ⟨_, rfl⟩
    obtain ⟨k, m, A2, c2, hk, hm3, rfl, rfl, hbr, hml, hown⟩ := hrel
    have hsz := hbr.size
    by_cases hlt : k < cs.length
    · obtain ⟨ba, off, Ae, ce, rfl, hba, x0', x1', x2', x3', hse⟩ := hct.get k hlt hlt
      have x0 := (later_cell hbr hba).trans x0'
      have x1 := (later_cell hbr hba).trans x1'
      have x2 := (later_cell hbr hba).trans x2'
      have x3 := (later_cell hbr hba).trans x3'
      have hsucc := flatMap_take_succ edgesC cs k hlt
      have hle := HLE.out (k + 1)
      have hul := HES.out cs[k] (List.getElem_mem hlt)
      obtain ⟨ct, hctk⟩ : ∃ ct, ct = cs[k] := ⟨_, rfl⟩
      rw [← hctk] at x0 x1 x2 x3 hse hsucc hul
      obtain ⟨u, hu⟩ : ∃ u, ct.es.length = u := ⟨_, rfl⟩
      rw [hu] at x2 hse hul
      obtain ⟨O, hO⟩ : ∃ O, O = (cs.take k).flatMap edgesC := ⟨_, rfl⟩
      rw [← hO] at hown hml hsucc
      have HSUCC := Lib.hid hsucc
      have HLE1 := Lib.hid hle
      have HU := Lib.hid hu
      clear x0' x1' x2' x3' hsucc hle hctk hO hu
      by_cases hu0 : u = 0
      · have hnil : edgesC ct = [] := by
          have : ct.es = [] := List.length_eq_zero_iff.1 (HU.out.trans hu0)
          unfold edgesC closeC; rw [this]; simp [endX, endY]
        subst hu0
        have HL2 := Lib.hid (show ((cs.take (k + 1)).flatMap edgesC) = O by rw [HSUCC.out, hnil, List.append_nil])
        clear hnil
        go_wp2_with fail
        go_roundw
        case rel => exact ⟨k + 1, m, A2, c2, by omega, by omega, rfl, by go_num, bal hbr _, Lib.hid (by rw [HL2.out]; exact hml.out), by rw [HL2.out]; exact own_below hown (bal (Below.refl _ _) _)⟩
        case measure => simp [intOf]; omega
      · have hu1 : 1 ≤ u := by omega
        obtain ⟨bU, oU, rfl, hbU, f0, f1, f2, f3, f4, f5, f6⟩ := hse.ed (u - 1) (by omega) (by rw [HU.out]; omega)
        have hcl2 : closeC ct = if (ct.es[u - 1]'(by rw [HU.out]; omega)).x1 = ct.x ∧ (ct.es[u - 1]'(by rw [HU.out]; omega)).y1 = ct.y then [] else [⟨(ct.es[u - 1]'(by rw [HU.out]; omega)).x1, (ct.es[u - 1]'(by rw [HU.out]; omega)).y1, false, 0, 0, ct.x, ct.y⟩] := by
          unfold closeC; rw [endX_get _ _ (by rw [HU.out]; omega), endY_get _ _ (by rw [HU.out]; omega)]; simp only [HU.out]
        obtain ⟨eu, heu⟩ : ∃ eu, eu = ct.es[u - 1]'(by rw [HU.out]; omega) := ⟨_, rfl⟩
        rw [← heu] at f0 f1 f2 f3 f4 f5 f6 hcl2
        obtain ⟨ex, hex⟩ : ∃ v, v = eu.x1 := ⟨_, rfl⟩
        obtain ⟨ey, hey⟩ : ∃ v, v = eu.y1 := ⟨_, rfl⟩
        rw [← hex] at f5 hcl2
        rw [← hey] at f6 hcl2
        have HCL := Lib.hid hcl2
        have hsE := hse.below hbr
        have hbU2 : bU < wo.heap.size := by omega
        clear hcl2 heu hex hey
        by_cases hc : ex = ct.x ∧ ey = ct.y
        · have HL2 := Lib.hid (show ((cs.take (k + 1)).flatMap edgesC) = O ++ ct.es by rw [HSUCC.out]; unfold edgesC; rw [HCL.out, if_pos hc, List.append_nil])
          obtain ⟨rfl, rfl⟩ := hc
          clear HCL HSUCC
          go_wp2_with (at_builtin; refine wpList_app rfl _ _ 30 rfl w1.heap.size edT rfl (own_below hown (bal (Below.refl _ _) _)) (eds ct.es) rfl (hsE.below (bal (Below.refl _ _) _)) (oneCell_eds _) (by omega) (bal hbr _).size ?_; intro A3 c3 w3 hown3 hg3 hat3; have hmd := ((Mid.refl wo.heap.size (wo.alloc _))).grown (Off.old hown _) hg3; have hwo : wo.heap.size < w3.heap.size := Nat.lt_of_lt_of_le (by simp) hmd.1; have k0 : w3.cell? ⟨wo.heap.size, 0, none⟩ = some (.int .i64 ct.x) := (hmd.cell (Nat.le_refl _) (by simp)).trans (new_cell _ 0); have k1 : w3.cell? ⟨wo.heap.size, 1, none⟩ = some (.int .i64 ct.y) := (hmd.cell (Nat.le_refl _) (by simp)).trans (new_cell _ 1); have k2 : w3.cell? ⟨wo.heap.size, 2, none⟩ = some (.slice (some ⟨bU, oU, none⟩) u ce) := (hmd.cell (Nat.le_refl _) (by simp)).trans (new_cell _ 2); have hb3 : Below w1.heap.size w1 w3 := grown_below (bal hbr _) hg3 (own_below hown (bal (Below.refl _ _) _)); have e0 := (later_cell hb3 hbU).trans f0; have e1 := (later_cell hb3 hbU).trans f1; have e2 := (later_cell hb3 hbU).trans f2; have e3 := (later_cell hb3 hbU).trans f3; have e4 := (later_cell hb3 hbU).trans f4; have e5 := (later_cell hb3 hbU).trans f5; have e6 := (later_cell hb3 hbU).trans f6)
          go_roundw
          case rel => exact ⟨k + 1, m + u, A3, c3, by omega, by have := HLE1.out; rw [HL2.out, List.length_append, hml.out, HU.out] at this; exact this, rfl, by go_num, bal hb3 _, Lib.hid (by rw [HL2.out, List.length_append, hml.out, HU.out]), by rw [HL2.out, eds_app]; exact own_below hown3 (bal (Below.refl _ _) _)⟩
          case measure => simp [intOf]; omega
        · have HL2 := Lib.hid (show ((cs.take (k + 1)).flatMap edgesC) = O ++ ct.es ++ [⟨ex, ey, false, 0, 0, ct.x, ct.y⟩] by rw [HSUCC.out]; unfold edgesC; rw [HCL.out, if_neg hc, List.append_assoc])
          clear HCL HSUCC
          have hlen : ((cs.take (k + 1)).flatMap edgesC).length = m + u + 1 := by rw [HL2.out, List.length_append, List.length_append, hml.out, HU.out]; rfl
          have hl9 := HLE1.out
          rw [hlen] at hl9
          have HLEN := Lib.hid hlen
          clear hlen
          by_cases hx : ex = ct.x
          · have hy : ¬ ey = ct.y := fun e => hc ⟨hx, e⟩
            subst hx
            have b2 : (ey == ct.y) = false := by simp [hy]
            have b3 : (ey != ct.y) = true := by simp [hy]
            clear hc hy
            go_wp2_with (first
              | (at_builtin; refine wpList_app rfl _ _ 30 rfl w1.heap.size edT rfl (own_below hown (bal (Below.refl _ _) _)) (eds ct.es) rfl (hsE.below (bal (Below.refl _ _) _)) (oneCell_eds _) (by omega) (bal hbr _).size ?_; intro A3 c3 w3 hown3 hg3 hat3; have hmd := ((Mid.refl wo.heap.size (wo.alloc _))).grown (Off.old hown _) hg3; have hwo : wo.heap.size < w3.heap.size := Nat.lt_of_lt_of_le (by simp) hmd.1; have k0 : w3.cell? ⟨wo.heap.size, 0, none⟩ = some (.int .i64 ct.x) := (hmd.cell (Nat.le_refl _) (by simp)).trans (new_cell _ 0); have k1 : w3.cell? ⟨wo.heap.size, 1, none⟩ = some (.int .i64 ct.y) := (hmd.cell (Nat.le_refl _) (by simp)).trans (new_cell _ 1); have k2 : w3.cell? ⟨wo.heap.size, 2, none⟩ = some (.slice (some ⟨bU, oU, none⟩) u ce) := (hmd.cell (Nat.le_refl _) (by simp)).trans (new_cell _ 2); have hb3 : Below w1.heap.size w1 w3 := grown_below (bal hbr _) hg3 (own_below hown (bal (Below.refl _ _) _)); have e0 := (later_cell hb3 hbU).trans f0; have e1 := (later_cell hb3 hbU).trans f1; have e2 := (later_cell hb3 hbU).trans f2; have e3 := (later_cell hb3 hbU).trans f3; have e4 := (later_cell hb3 hbU).trans f4; have e5 := (later_cell hb3 hbU).trans f5; have e6 := (later_cell hb3 hbU).trans f6)
              | (at_builtin; refine wpList_app rfl _ _ 30 rfl w1.heap.size edT rfl (own_below hown3 (bal (bal (Below.refl _ _) _) _)) (edc ⟨ct.x, ey, false, 0, 0, ct.x, ct.y⟩) rfl (sl_newN _ (by simp) rfl) (oneCell_edc _) (by omega) (bal (bal hb3 _) _).size ?_; intro A5 c5 w5 hown5 hg5 hat5))
            go_roundw
            case rel => exact ⟨k + 1, m + u + 1, A5, c5, by omega, hl9, rfl, by go_num, grown_below (bal (bal hb3 _) _) hg5 (own_below hown3 (bal (bal (Below.refl _ _) _) _)), HLEN, by rw [HL2.out, eds_app, eds_app, eds_one]; exact hown5⟩
            case measure => simp [intOf]; omega
          · have b2 : (ex == ct.x) = false := by simp [hx]
            have b3 : (ex != ct.x) = true := by simp [hx]
            clear hc hx
            go_wp2_with (first
              | (at_builtin; refine wpList_app rfl _ _ 30 rfl w1.heap.size edT rfl (own_below hown (bal (Below.refl _ _) _)) (eds ct.es) rfl (hsE.below (bal (Below.refl _ _) _)) (oneCell_eds _) (by omega) (bal hbr _).size ?_; intro A3 c3 w3 hown3 hg3 hat3; have hmd := ((Mid.refl wo.heap.size (wo.alloc _))).grown (Off.old hown _) hg3; have hwo : wo.heap.size < w3.heap.size := Nat.lt_of_lt_of_le (by simp) hmd.1; have k0 : w3.cell? ⟨wo.heap.size, 0, none⟩ = some (.int .i64 ct.x) := (hmd.cell (Nat.le_refl _) (by simp)).trans (new_cell _ 0); have k1 : w3.cell? ⟨wo.heap.size, 1, none⟩ = some (.int .i64 ct.y) := (hmd.cell (Nat.le_refl _) (by simp)).trans (new_cell _ 1); have k2 : w3.cell? ⟨wo.heap.size, 2, none⟩ = some (.slice (some ⟨bU, oU, none⟩) u ce) := (hmd.cell (Nat.le_refl _) (by simp)).trans (new_cell _ 2); have hb3 : Below w1.heap.size w1 w3 := grown_below (bal hbr _) hg3 (own_below hown (bal (Below.refl _ _) _)); have e0 := (later_cell hb3 hbU).trans f0; have e1 := (later_cell hb3 hbU).trans f1; have e2 := (later_cell hb3 hbU).trans f2; have e3 := (later_cell hb3 hbU).trans f3; have e4 := (later_cell hb3 hbU).trans f4; have e5 := (later_cell hb3 hbU).trans f5; have e6 := (later_cell hb3 hbU).trans f6)
              | (at_builtin; refine wpList_app rfl _ _ 30 rfl w1.heap.size edT rfl (own_below hown3 (bal (bal (Below.refl _ _) _) _)) (edc ⟨ex, ey, false, 0, 0, ct.x, ct.y⟩) rfl (sl_newN _ (by simp) rfl) (oneCell_edc _) (by omega) (bal (bal hb3 _) _).size ?_; intro A5 c5 w5 hown5 hg5 hat5))
            go_roundw
            case rel => exact ⟨k + 1, m + u + 1, A5, c5, by omega, hl9, rfl, by go_num, grown_below (bal (bal hb3 _) _) hg5 (own_below hown3 (bal (bal (Below.refl _ _) _) _)), HLEN, by rw [HL2.out, eds_app, eds_app, eds_one]; exact hown5⟩
            case measure => simp [intOf]; omega
    · obtain rfl : k = cs.length := by omega
      have htake : cs.take cs.length = cs := List.take_of_length_le (Nat.le_refl _)
      rw [htake, HALL.out] at hml hown
      clear htake
      go_wp2
      go_ret
      rw [hml.out]
      exact ⟨A2, c2, rfl, own_mono hown hb1.size, btr hb1 hbr, hm3⟩

end Go.Proofs.Ytpompbpdhahljaa
