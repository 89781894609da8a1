/- stroke.dot, stroke.shapes. -/
import Derived.Test.YtbpgehaflbacmaaStroke3
import Derived.Test.YtbpgehaflbacmaaAllP
import Derived.Deep.DeepCutAuto
namespace Go.Proofs.Ytbpgehaflbacmaa
open Go.RowKit

def shps (l : List Shp) : List Value := l.map shv
theorem shps_app (a b : List Shp) : shps (a ++ b) = shps a ++ shps b := List.map_append
theorem shps_len (l : List Shp) : (shps l).length = l.length := by simp [shps]
theorem oneCell_shv (s : Shp) : (shv s).oneCell' = true := by cases s <;> rfl
theorem oneCell_shps (l : List Shp) : ∀ u ∈ shps l, u.oneCell' = true := by
  intro u hu
  obtain ⟨s, _, rfl⟩ := List.mem_map.1 hu
  exact oneCell_shv s
theorem shpT : SlT Try.prog 49 65 1 16 := slT_of Try.underlying49 (by kernel_rfl) (by omega) (by omega)
/-- A style's cells. -/
def syc (s : Sy) : Value := .agg #[.int .i64 s.wide, .int .i64 s.cap, .int .i64 s.join]

theorem dot_any (ct : Ct) (A : Option Addr) (n c : Nat) (bs : Bool) (s : Sy) (m : Nat) (w : World) (hm : (dotS ct s).length = m) :
    Calls Try.prog 40 #[.agg #[.int .i64 ct.x, .int .i64 ct.y, .slice A n c, .bool bs], syc s] w
      fun e w' => ∃ (A' : Option Addr) (c' : Nat), e = .returned (.slice A' m c') ∧ Sl w' 1 A' m (shps (dotS ct s)) ∧ Below w.heap.size w w' := by
  unfold syc
  by_cases h1 : s.cap = 1
  · have g1 : (s.cap == 1) = true := by simp [h1]
    have hd : dotS ct s = [.disc ct.x ct.y s.wide] := by unfold dotS; rw [if_pos h1]
    obtain rfl : 1 = m := by rw [← hm, hd]; rfl
    have HD := Lib.hid hd
    clear hd hm h1
    go_enter Try.func40, Try.ntmps40
    go_wp2
    go_ret
    exact ⟨_, _, rfl, by rw [HD.out]; exact sl_newN _ (by simp) rfl, bal (bal (bal (Below.refl _ _) _) _) _⟩
  · have g1 : (s.cap == 1) = false := by simp [h1]
    by_cases h2 : s.cap = 2
    · have g2 : (s.cap == 2) = true := by simp [h2]
      have hd : dotS ct s = [.sq ct.x ct.y s.wide] := by unfold dotS; rw [if_neg h1, if_pos h2]
      obtain rfl : 1 = m := by rw [← hm, hd]; rfl
      have HD := Lib.hid hd
      clear hd hm h1 h2
      go_enter Try.func40, Try.ntmps40
      go_wp2
      go_ret
      exact ⟨_, _, rfl, by rw [HD.out]; exact sl_newN _ (by simp) rfl, bal (bal (bal (Below.refl _ _) _) _) _⟩
    · have g2 : (s.cap == 2) = false := by simp [h2]
      have hd : dotS ct s = [] := by unfold dotS; rw [if_neg h1, if_neg h2]
      obtain rfl : 0 = m := by rw [← hm, hd]; rfl
      have HD := Lib.hid hd
      clear hd hm h1 h2
      go_enter Try.func40, Try.ntmps40
      go_wp2
      go_ret
      exact ⟨none, 0, rfl, by rw [HD.out]; exact Sl.nil_, bal (bal (Below.refl _ _) _) _⟩

set_option maxRecDepth 100000 in
set_option maxHeartbeats 4000000 in
theorem shapes_any (ct : Ct) (A : Option Addr) (n c : Nat) (s : Sy) (L : List Shp) (m : Nat) (w : World) (hn : n ≤ 400) (h : Sl w 7 A n (eds ct.es)) (hs : shpC s ct = L) (hm : L.length = m) :
    Calls Try.prog 30 #[.agg #[.int .i64 ct.x, .int .i64 ct.y, .slice A n c, .bool ct.shut], syc s] w
      fun e w' => ∃ (A' : Option Addr) (c' : Nat), e = .returned (.slice A' m c') ∧ Sl w' 1 A' m (shps L) ∧ Below w.heap.size w w' := by
  have hl := h.edlen
  have HL := Lib.hid hl
  have HSH := Lib.hid hs
  have HM := Lib.hid hm
  clear hl hs hm
  obtain ⟨ps, hps⟩ : ∃ ps, piecesC ct = ps := ⟨_, rfl⟩
  obtain ⟨p, hp⟩ : ∃ p, ps.length = p := ⟨_, rfl⟩
  have hp4 : p ≤ 401 := by rw [← hp, ← hps]; have := piecesC_len ct; have := HL.out; omega
  have HPS := Lib.hid hps
  have HP := Lib.hid hp
  clear hps hp
  unfold syc
  obtain ⟨W0, hW0⟩ : ∃ W0 : World, W0 = (w.alloc (.cells #[.int .i64 ct.x, .int .i64 ct.y, .slice A n c, .bool ct.shut] 62)).alloc (.cells #[.int .i64 s.wide, .int .i64 s.cap, .int .i64 s.join] 27) := ⟨_, rfl⟩
  have hB0 : Below w.heap.size w W0 := by rw [hW0]; exact bal (bal (Below.refl _ _) _) _
  have hbx : ∀ j, W0.cell? ⟨w.heap.size, j, none⟩ = (#[Value.int .i64 ct.x, Value.int .i64 ct.y, Value.slice A n c, Value.bool ct.shut] : Array Value)[j]? := fun j => by rw [hW0]; exact (later_cell (bal (Below.refl _ _) _) (by simp)).trans (new_cell _ j)
  have hsx : ∀ j, W0.cell? ⟨w.heap.size + 1, j, none⟩ = (#[Value.int .i64 s.wide, Value.int .i64 s.cap, Value.int .i64 s.join] : Array Value)[j]? := fun j => by
    rw [hW0]
    have hz : (w.alloc (.cells #[.int .i64 ct.x, .int .i64 ct.y, .slice A n c, .bool ct.shut] 62)).heap.size = w.heap.size + 1 := by simp
    rw [← hz]; exact new_cell _ j
  have hz0 : w.heap.size + 1 < W0.heap.size := by rw [hW0]; simp
  have b0 : W0.cell? ⟨w.heap.size, 0, none⟩ = some (.int .i64 ct.x) := hbx 0
  have b1 : W0.cell? ⟨w.heap.size, 1, none⟩ = some (.int .i64 ct.y) := hbx 1
  have b2 : W0.cell? ⟨w.heap.size, 2, none⟩ = some (.slice A n c) := hbx 2
  have b3 : W0.cell? ⟨w.heap.size, 3, none⟩ = some (.bool ct.shut) := hbx 3
  have s0 : W0.cell? ⟨w.heap.size + 1, 0, none⟩ = some (.int .i64 s.wide) := hsx 0
  have s1 : W0.cell? ⟨w.heap.size + 1, 1, none⟩ = some (.int .i64 s.cap) := hsx 1
  have s2 : W0.cell? ⟨w.heap.size + 1, 2, none⟩ = some (.int .i64 s.join) := hsx 2
  have hse := h.below hB0
  have hzz : w.heap.size < W0.heap.size := by omega
  go_enter Try.func30, Try.ntmps30
  go_wp2_with fail
  rw [← hW0]
  clear hbx hsx hW0 h
  refine (stroke_pieces_any ct A n c ps p W0 hn hse HPS.out HP.out).mono ?_
  rintro e w1 ⟨Ap, cp, rfl, hown1, hb1⟩
  have B1 := btr hB0 hb1
  have hpc := own_sl hown1
  have hsz1 := hb1.size
  replace b0 := (later_cell hb1 hzz).trans b0
  replace b1 := (later_cell hb1 hzz).trans b1
  replace b2 := (later_cell hb1 hzz).trans b2
  replace b3 := (later_cell hb1 hzz).trans b3
  replace s0 := (later_cell hb1 hz0).trans s0
  replace s1 := (later_cell hb1 hz0).trans s1
  replace s2 := (later_cell hb1 hz0).trans s2
  clear hown1
  by_cases hp0 : p = 0
  · subst hp0
    have hsc : L = if 0 < ct.es.length ∨ ct.shut = true then dotS ct s else [] := by rw [← HSH.out]; unfold shpC; rw [HPS.out, HP.out, if_pos rfl]
    by_cases hd : 0 < ct.es.length ∨ ct.shut = true
    · rw [if_pos hd] at hsc
      have hcase : (0 < n) ∨ (n = 0 ∧ ct.shut = true) := by
        rw [HL.out] at hd
        rcases Nat.eq_zero_or_pos n with h0 | h0
        · exact .inr ⟨h0, by rcases hd with h | h; omega; exact h⟩
        · exact .inl h0
      have hdl : (dotS ct s).length = m := by rw [← hsc]; exact HM.out
      have HSC := Lib.hid hsc
      have HDL := Lib.hid hdl
      clear hd hsc hdl
      rcases hcase with h0 | ⟨rfl, h1⟩
      all_goals
        go_wp2_with fail
        refine (dot_any ct A _ c _ s m _ HDL.out).mono ?_
        rintro e w2 ⟨A2, c2, rfl, hs2, hb2⟩
        go_wp2
        go_ret
        exact ⟨A2, c2, rfl, by rw [HSC.out]; exact hs2, btr B1 hb2⟩
    · rw [if_neg hd] at hsc
      obtain rfl : 0 = m := by rw [← HM.out, hsc]; rfl
      have h0 : n = 0 := by rw [HL.out] at hd; omega
      have h1 : ct.shut = false := by cases hh : ct.shut; rfl; exact absurd (.inr hh) hd
      subst h0
      have HSC := Lib.hid hsc
      clear hd hsc
      go_wp2
      go_ret
      exact ⟨none, 0, rfl, by rw [HSC.out]; exact Sl.nil_, B1⟩
  · have hp1 : 0 < p := by omega
    have hp2 : ((p : Int) == 0) = false := by simp; omega
    have hp3 : (p == 0) = false := by simp; omega
    have hsc : L = shTo ct.shut s ps p := by rw [← HSH.out]; unfold shpC; rw [HPS.out, HP.out, if_neg hp0]
    have HSC := Lib.hid hsc
    clear hsc hp0
    go_wp2
    go_loopw [6, 29] (fun os i wr => ∃ (k mm : Nat) (A5 : Option Addr) (c5 : Nat), k ≤ p ∧ mm ≤ 3 * k ∧ os = .slice A5 mm c5 ∧ i = .int .i64 (k : Int) ∧ Below w1.heap.size w1 wr ∧ wr.ownsRow w1.heap.size 65 1 (.slice A5 mm c5) mm (shps (shTo ct.shut s ps k))) (fun _ i _ => p - (intOf i).toNat)
    case atStart => exact ⟨0, 0, none, 0, by omega, by omega, rfl, rfl, Below.refl _ _, own_nil⟩
    case round =>
      obtain ⟨wo, rfl⟩ : ∃ wo : World, wo = wr := ⟨_, rfl⟩
      obtain ⟨k, mm, A5, c5, hk, hmk, rfl, rfl, hbr, hown⟩ := hrel
      have x3 := (later_cell hbr (Nat.lt_of_lt_of_le hzz hsz1)).trans b3
      have y0 := (later_cell hbr (Nat.lt_of_lt_of_le hz0 hsz1)).trans s0
      have y1 := (later_cell hbr (Nat.lt_of_lt_of_le hz0 hsz1)).trans s1
      have y2 := (later_cell hbr (Nat.lt_of_lt_of_le hz0 hsz1)).trans s2
      by_cases hlt : k < p
      · have hkl : k < ps.length := by rw [HP.out]; exact hlt
        obtain ⟨b, off, rfl, hb, e0, e1, e2, e3, e4, e5, e6⟩ := hpc.ed k hlt hkl
        have hto := shTo_succ ct.shut s ps k hkl
        obtain ⟨ed, hed⟩ : ∃ ed, ed = ps[k] := ⟨_, rfl⟩
        rw [← hed] at e0 e1 e2 e3 e4 e5 e6 hto
        replace e0 := (later_cell hbr hb).trans e0
        replace e1 := (later_cell hbr hb).trans e1
        replace e2 := (later_cell hbr hb).trans e2
        replace e3 := (later_cell hbr hb).trans e3
        replace e4 := (later_cell hbr hb).trans e4
        replace e5 := (later_cell hbr hb).trans e5
        replace e6 := (later_cell hbr hb).trans e6
        obtain ⟨F, hF⟩ : ∃ F : Bool, F = (decide (k = 0) && !ct.shut) := ⟨_, rfl⟩
        obtain ⟨Z, hZ⟩ : ∃ Z : Bool, Z = (decide (k + 1 = p) && !ct.shut) := ⟨_, rfl⟩
        have hat : shAt ct.shut s ps k ed = .pc ed s.wide (F && decide (s.cap = 2)) (Z && decide (s.cap = 2)) :: ((if (F && decide (s.cap = 1)) || (!F && decide (s.join = 1)) then [.disc ed.x0 ed.y0 s.wide] else []) ++ (if Z && decide (s.cap = 1) then [.disc ed.x1 ed.y1 s.wide] else [])) := by
          unfold shAt; rw [HP.out, ← hF, ← hZ]
        have HTO := Lib.hid hto
        have HAT := Lib.hid hat
        have HF := Lib.hid hF
        have HZ := Lib.hid hZ
        clear hed hto hat hF hZ
        go_upto_region 10 with (fail)
        obtain ⟨w5, hw5⟩ : ∃ w5 : World, w5 = wo.alloc (.cells #[.int .i64 ed.x0, .int .i64 ed.y0, .bool ed.bent, .int .i64 ed.cx, .int .i64 ed.cy, .int .i64 ed.x1, .int .i64 ed.y1] 68) := ⟨_, rfl⟩
        rw [← hw5]
        have hnc : ∀ j, w5.cell? ⟨wo.heap.size, j, none⟩ = (#[Value.int .i64 ed.x0, .int .i64 ed.y0, .bool ed.bent, .int .i64 ed.cx, .int .i64 ed.cy, .int .i64 ed.x1, .int .i64 ed.y1] : Array Value)[j]? := fun j => by rw [hw5]; exact new_cell _ j
        have k0 : w5.cell? ⟨wo.heap.size, 0, none⟩ = some (.int .i64 ed.x0) := hnc 0
        have k1 : w5.cell? ⟨wo.heap.size, 1, none⟩ = some (.int .i64 ed.y0) := hnc 1
        have k2 : w5.cell? ⟨wo.heap.size, 2, none⟩ = some (.bool ed.bent) := hnc 2
        have k3 : w5.cell? ⟨wo.heap.size, 3, none⟩ = some (.int .i64 ed.cx) := hnc 3
        have k4 : w5.cell? ⟨wo.heap.size, 4, none⟩ = some (.int .i64 ed.cy) := hnc 4
        have k5 : w5.cell? ⟨wo.heap.size, 5, none⟩ = some (.int .i64 ed.x1) := hnc 5
        have k6 : w5.cell? ⟨wo.heap.size, 6, none⟩ = some (.int .i64 ed.y1) := hnc 6
        have hb05 : Below wo.heap.size wo w5 := by rw [hw5]; exact bal (Below.refl _ _) _
        have hz5 : wo.heap.size < w5.heap.size := by rw [hw5]; simp
        have hown5 := own_below hown hb05
        have hoff5 : Off wo.heap.size w5.heap.size (.slice A5 mm c5) := Off.old hown _
        have hmd5 := Mid.refl wo.heap.size w5
        have hbr5 := btr hbr hb05
        have HE := Lib.hid hnc
        replace x3 := (later_cell hb05 (Nat.lt_of_lt_of_le (Nat.lt_of_lt_of_le hzz hsz1) hbr.size)).trans x3
        replace y0 := (later_cell hb05 (Nat.lt_of_lt_of_le (Nat.lt_of_lt_of_le hz0 hsz1) hbr.size)).trans y0
        replace y1 := (later_cell hb05 (Nat.lt_of_lt_of_le (Nat.lt_of_lt_of_le hz0 hsz1) hbr.size)).trans y1
        replace y2 := (later_cell hb05 (Nat.lt_of_lt_of_le (Nat.lt_of_lt_of_le hz0 hsz1) hbr.size)).trans y2
        clear hw5 hnc hown e0 e1 e2 e3 e4 e5 e6
        go_cut [9, 10] (fun s9 s10 wx => s9 = .bool F ∧ s10 = .bool Z ∧ ∃ q, wx = w5.drewN q)
        case first =>
          have hi1 : ((k : Int) == 0) = decide (k = 0) := by rw [Bool.eq_iff_iff]; simp
          have hi2 : ((k : Int) == (p : Int) - 1) = decide (k + 1 = p) := by rw [Bool.eq_iff_iff]; simp; omega
          cases hk0 : decide (k = 0) <;> cases hkp : decide (k + 1 = p) <;> rcases (Bool.eq_false_or_eq_true ct.shut) with hsu | hsu
          all_goals
            have hF2 := HF.out
            have hZ2 := HZ.out
            rw [hk0, hsu] at hF2
            rw [hkp, hsu] at hZ2
            rw [hk0] at hi1
            rw [hkp] at hi2
            have HF2 := Lib.hid hF2
            have HZ2 := Lib.hid hZ2
            rw [hsu] at x3
            clear hF2 hZ2 hk0 hkp hsu
            go_quiet (fail)
            go_wp2
            go_meet
            exact ⟨by rw [HF2.out]; rfl, by rw [HZ2.out]; rfl, _, rfl⟩
        case rest =>
          obtain ⟨rfl, rfl, q, hwq⟩ := hcut
          have hb6 : Below w5.heap.size w5 wc := by rw [hwq]; exact bdrewN (Below.refl _ _) _
          have hbx6 := btr hbr5 hb6
          have hmd6 := hmd5.bel hb6
          have hown6 := own_below hown5 hb6
          clear hwq x3 y0 y1 y2 k0 k1 k2 k3 k4 k5 k6 hown5 hmd5 hbr5 hb6
          have hzs : w.heap.size + 1 < w1.heap.size := Nat.lt_of_lt_of_le hz0 hsz1
          have y0 : wc.cell? ⟨w.heap.size + 1, 0, none⟩ = some (.int .i64 s.wide) := (later_cell hbx6 hzs).trans s0
          have y1 : wc.cell? ⟨w.heap.size + 1, 1, none⟩ = some (.int .i64 s.cap) := (later_cell hbx6 hzs).trans s1
          have y2 : wc.cell? ⟨w.heap.size + 1, 2, none⟩ = some (.int .i64 s.join) := (later_cell hbx6 hzs).trans s2
          have k0 : wc.cell? ⟨wo.heap.size, 0, none⟩ = some (.int .i64 ed.x0) := ((hmd6).cell (Nat.le_refl _) hz5).trans (HE.out 0)
          have k1 : wc.cell? ⟨wo.heap.size, 1, none⟩ = some (.int .i64 ed.y0) := ((hmd6).cell (Nat.le_refl _) hz5).trans (HE.out 1)
          have k2 : wc.cell? ⟨wo.heap.size, 2, none⟩ = some (.bool ed.bent) := ((hmd6).cell (Nat.le_refl _) hz5).trans (HE.out 2)
          have k3 : wc.cell? ⟨wo.heap.size, 3, none⟩ = some (.int .i64 ed.cx) := ((hmd6).cell (Nat.le_refl _) hz5).trans (HE.out 3)
          have k4 : wc.cell? ⟨wo.heap.size, 4, none⟩ = some (.int .i64 ed.cy) := ((hmd6).cell (Nat.le_refl _) hz5).trans (HE.out 4)
          have k5 : wc.cell? ⟨wo.heap.size, 5, none⟩ = some (.int .i64 ed.x1) := ((hmd6).cell (Nat.le_refl _) hz5).trans (HE.out 5)
          have k6 : wc.cell? ⟨wo.heap.size, 6, none⟩ = some (.int .i64 ed.y1) := ((hmd6).cell (Nat.le_refl _) hz5).trans (HE.out 6)
          obtain ⟨d1, hd1⟩ : ∃ d : Bool, d = (F && decide (s.cap = 2)) := ⟨_, rfl⟩
          obtain ⟨d2, hd2⟩ : ∃ d : Bool, d = (Z && decide (s.cap = 2)) := ⟨_, rfl⟩
          obtain ⟨d3, hd3⟩ : ∃ d : Bool, d = ((F && decide (s.cap = 1)) || (!F && decide (s.join = 1))) := ⟨_, rfl⟩
          obtain ⟨d4, hd4⟩ : ∃ d : Bool, d = (Z && decide (s.cap = 1)) := ⟨_, rfl⟩
          have hat2 := HAT.out
          rw [← hd1, ← hd2, ← hd3, ← hd4] at hat2
          have HAT2 := Lib.hid hat2
          have HD1 := Lib.hid hd1
          have HD2 := Lib.hid hd2
          have HD3 := Lib.hid hd3
          have HD4 := Lib.hid hd4
          clear hat2 hd1 hd2 hd3 hd4
          have hc2 : (s.cap == 2) = decide (s.cap = 2) := by rw [Bool.eq_iff_iff]; simp
          have hc1 : (s.cap == 1) = decide (s.cap = 1) := by rw [Bool.eq_iff_iff]; simp
          have hj1 : (s.join == 1) = decide (s.join = 1) := by rw [Bool.eq_iff_iff]; simp
          go_upto_region 11 with (fail)
          go_cut [6, 9, 10] (fun s6 s9 s10 wx => ∃ (m' : Nat) (A' : Option Addr) (c' : Nat), s6 = .slice A' m' c' ∧ s9 = .bool F ∧ s10 = .bool Z ∧ m' ≤ mm + 1 ∧ Below w1.heap.size w1 wx ∧ Mid wo.heap.size w5.heap.size w5 wx ∧ Off wo.heap.size w5.heap.size (.slice A' m' c') ∧ wx.ownsRow w1.heap.size 65 1 (.slice A' m' c') m' (shps (shTo ct.shut s ps k ++ [.pc ed s.wide d1 d2])))
          case first =>
            cases hF1 : F <;> cases hZ1 : Z <;> cases hcc : decide (s.cap = 2)
            all_goals
              have e1 := HD1.out
              have e2 := HD2.out
              rw [hF1, hcc] at e1
              rw [hZ1, hcc] at e2
              rw [hcc] at hc2
              have E1 := Lib.hid e1
              have E2 := Lib.hid e2
              have HF1 := Lib.hid hF1
              have HZ1 := Lib.hid hZ1
              clear e1 e2 hF1 hZ1 hcc
              go_wp2_with (at_builtin; refine wpList_app rfl _ _ 49 rfl w1.heap.size shpT rfl (own_below hown6 (bal (Below.refl _ _) _)) (shps [.pc ed s.wide d1 d2]) rfl (by rw [E1.out, E2.out]; exact sl_newN _ (by simp) rfl) (oneCell_shps _) (by omega) (by have := hbx6.size; simp; omega) ?_; intro A8 c8 w8 hown8 hg8 hat8)
              go_meet
              exact ⟨mm + 1, A8, c8, rfl, congrArg Value.bool HF1.out.symm, congrArg Value.bool HZ1.out.symm, Nat.le_refl _, grown_below (bal hbx6 _) hg8 (own_below hown6 (bal (Below.refl _ _) _)), (hmd6.bel (bal (Below.refl _ _) _)).grown hoff5 hg8, hoff5.next hat8 ((hmd6.bel (bal (Below.refl _ _) _)).1), by rw [shps_app]; exact hown8⟩
          case rest =>
            obtain ⟨m7, A7, c7, rfl, rfl, rfl, hm7, hbx7, hmd7, hoff7, hown7⟩ := hcut
            clear y0 y1 y2 k0 k1 k2 k3 k4 k5 k6 hbx6 hmd6 hown6 hoff5
            have y0 : wc.cell? ⟨w.heap.size + 1, 0, none⟩ = some (.int .i64 s.wide) := (later_cell hbx7 hzs).trans s0
            have y1 : wc.cell? ⟨w.heap.size + 1, 1, none⟩ = some (.int .i64 s.cap) := (later_cell hbx7 hzs).trans s1
            have y2 : wc.cell? ⟨w.heap.size + 1, 2, none⟩ = some (.int .i64 s.join) := (later_cell hbx7 hzs).trans s2
            have k0 : wc.cell? ⟨wo.heap.size, 0, none⟩ = some (.int .i64 ed.x0) := ((hmd7).cell (Nat.le_refl _) hz5).trans (HE.out 0)
            have k1 : wc.cell? ⟨wo.heap.size, 1, none⟩ = some (.int .i64 ed.y0) := ((hmd7).cell (Nat.le_refl _) hz5).trans (HE.out 1)
            have k2 : wc.cell? ⟨wo.heap.size, 2, none⟩ = some (.bool ed.bent) := ((hmd7).cell (Nat.le_refl _) hz5).trans (HE.out 2)
            have k3 : wc.cell? ⟨wo.heap.size, 3, none⟩ = some (.int .i64 ed.cx) := ((hmd7).cell (Nat.le_refl _) hz5).trans (HE.out 3)
            have k4 : wc.cell? ⟨wo.heap.size, 4, none⟩ = some (.int .i64 ed.cy) := ((hmd7).cell (Nat.le_refl _) hz5).trans (HE.out 4)
            have k5 : wc.cell? ⟨wo.heap.size, 5, none⟩ = some (.int .i64 ed.x1) := ((hmd7).cell (Nat.le_refl _) hz5).trans (HE.out 5)
            have k6 : wc.cell? ⟨wo.heap.size, 6, none⟩ = some (.int .i64 ed.y1) := ((hmd7).cell (Nat.le_refl _) hz5).trans (HE.out 6)
            go_upto_region 12 with (fail)
            go_cut [9, 10, 85] (fun s9 s10 sb wx => s9 = .bool F ∧ s10 = .bool Z ∧ sb = .bool d3 ∧ wx = wc)
            case first =>
              cases hF1 : F <;> cases hcc : decide (s.cap = 1) <;> cases hjj : decide (s.join = 1)
              all_goals
                have e1 := HD3.out
                rw [hF1, hcc, hjj] at e1
                rw [hcc] at hc1
                rw [hjj] at hj1
                have E1 := Lib.hid e1
                have HF1 := Lib.hid hF1
                clear e1 hF1 hcc hjj
                go_wp2
                go_meet
                exact ⟨congrArg Value.bool HF1.out.symm, rfl, by rw [E1.out]; rfl, rfl⟩
            case rest =>
              obtain ⟨rfl, rfl, rfl, rfl⟩ := hcut
              go_upto_if 85 with (fail)
              go_cut [6, 9, 10] (fun s6 s9 s10 wx => ∃ (m' : Nat) (A' : Option Addr) (c' : Nat), s6 = .slice A' m' c' ∧ s9 = .bool F ∧ s10 = .bool Z ∧ m' ≤ mm + 2 ∧ Below w1.heap.size w1 wx ∧ Mid wo.heap.size w5.heap.size w5 wx ∧ Off wo.heap.size w5.heap.size (.slice A' m' c') ∧ wx.ownsRow w1.heap.size 65 1 (.slice A' m' c') m' (shps (shTo ct.shut s ps k ++ [.pc ed s.wide d1 d2] ++ (if d3 then [.disc ed.x0 ed.y0 s.wide] else []))))
              case first =>
                cases hd3 : d3
                · have HE3 := Lib.hid hd3
                  clear hd3
                  go_wp2
                  go_meet
                  exact ⟨m7, A7, c7, rfl, rfl, rfl, by omega, hbx7, hmd7, hoff7, by rw [HE3.out]; simpa using hown7⟩
                · have HE3 := Lib.hid hd3
                  clear hd3
                  go_wp2_with (at_builtin; refine wpList_app rfl _ _ 49 rfl w1.heap.size shpT rfl (own_below hown7 (bal (Below.refl _ _) _)) (shps [.disc ed.x0 ed.y0 s.wide]) rfl (sl_newN _ (by simp) rfl) (oneCell_shps _) (by omega) (by have := hbx7.size; simp; omega) ?_; intro A8 c8 w8 hown8 hg8 hat8)
                  go_meet
                  exact ⟨m7 + 1, A8, c8, rfl, rfl, rfl, by omega, grown_below (bal hbx7 _) hg8 (own_below hown7 (bal (Below.refl _ _) _)), (hmd7.bel (bal (Below.refl _ _) _)).grown hoff7 hg8, hoff7.next hat8 ((hmd7.bel (bal (Below.refl _ _) _)).1), by rw [HE3.out, if_pos rfl, shps_app]; exact hown8⟩
              case rest =>
                obtain ⟨m8, A8, c8, rfl, rfl, rfl, hm8, hbx8, hmd8, hoff8, hown8⟩ := hcut
                clear y0 y1 y2 k0 k1 k2 k3 k4 k5 k6 hbx7 hmd7 hown7 hoff7
                have y0 : wc.cell? ⟨w.heap.size + 1, 0, none⟩ = some (.int .i64 s.wide) := (later_cell hbx8 hzs).trans s0
                have y1 : wc.cell? ⟨w.heap.size + 1, 1, none⟩ = some (.int .i64 s.cap) := (later_cell hbx8 hzs).trans s1
                have y2 : wc.cell? ⟨w.heap.size + 1, 2, none⟩ = some (.int .i64 s.join) := (later_cell hbx8 hzs).trans s2
                have k0 : wc.cell? ⟨wo.heap.size, 0, none⟩ = some (.int .i64 ed.x0) := ((hmd8).cell (Nat.le_refl _) hz5).trans (HE.out 0)
                have k1 : wc.cell? ⟨wo.heap.size, 1, none⟩ = some (.int .i64 ed.y0) := ((hmd8).cell (Nat.le_refl _) hz5).trans (HE.out 1)
                have k2 : wc.cell? ⟨wo.heap.size, 2, none⟩ = some (.bool ed.bent) := ((hmd8).cell (Nat.le_refl _) hz5).trans (HE.out 2)
                have k3 : wc.cell? ⟨wo.heap.size, 3, none⟩ = some (.int .i64 ed.cx) := ((hmd8).cell (Nat.le_refl _) hz5).trans (HE.out 3)
                have k4 : wc.cell? ⟨wo.heap.size, 4, none⟩ = some (.int .i64 ed.cy) := ((hmd8).cell (Nat.le_refl _) hz5).trans (HE.out 4)
                have k5 : wc.cell? ⟨wo.heap.size, 5, none⟩ = some (.int .i64 ed.x1) := ((hmd8).cell (Nat.le_refl _) hz5).trans (HE.out 5)
                have k6 : wc.cell? ⟨wo.heap.size, 6, none⟩ = some (.int .i64 ed.y1) := ((hmd8).cell (Nat.le_refl _) hz5).trans (HE.out 6)
                go_upto_region 14 with (fail)
                go_cut [9, 10, 102] (fun s9 s10 sb wx => s9 = .bool F ∧ s10 = .bool Z ∧ sb = .bool d4 ∧ wx = wc)
                case first =>
                  cases hZ1 : Z <;> cases hcc : decide (s.cap = 1)
                  all_goals
                    have e1 := HD4.out
                    rw [hZ1, hcc] at e1
                    rw [hcc] at hc1
                    have E1 := Lib.hid e1
                    have HZ1 := Lib.hid hZ1
                    clear e1 hZ1 hcc
                    go_wp2
                    go_meet
                    exact ⟨rfl, congrArg Value.bool HZ1.out.symm, by rw [E1.out]; rfl, rfl⟩
                case rest =>
                  obtain ⟨rfl, rfl, rfl, rfl⟩ := hcut
                  go_upto_if 102 with (fail)
                  cases hd4 : d4
                  · have he : shTo ct.shut s ps (k + 1) = shTo ct.shut s ps k ++ [.pc ed s.wide d1 d2] ++ (if d3 then [.disc ed.x0 ed.y0 s.wide] else []) := by rw [HTO.out, HAT2.out, hd4]; simp
                    have HE4 := Lib.hid he
                    clear hd4 he y0 y1 y2 k0 k1 k2 k3 k4 k5 k6
                    go_wp2
                    go_roundw
                    case rel => exact ⟨k + 1, m8, A8, c8, by omega, by omega, rfl, by go_num, hbx8, by rw [HE4.out]; exact hown8⟩
                    case measure => simp [intOf]; omega
                  · have he : shTo ct.shut s ps (k + 1) = shTo ct.shut s ps k ++ [.pc ed s.wide d1 d2] ++ (if d3 then [.disc ed.x0 ed.y0 s.wide] else []) ++ [.disc ed.x1 ed.y1 s.wide] := by rw [HTO.out, HAT2.out, hd4]; simp
                    have HE4 := Lib.hid he
                    clear hd4 he
                    go_wp2_with (at_builtin; refine wpList_app rfl _ _ 49 rfl w1.heap.size shpT rfl (own_below hown8 (bal (Below.refl _ _) _)) (shps [.disc ed.x1 ed.y1 s.wide]) rfl (sl_newN _ (by simp) rfl) (oneCell_shps _) (by omega) (by have := hbx8.size; simp; omega) ?_; intro A9 c9 w9 hown9 hg9 hat9)
                    go_roundw
                    case rel => exact ⟨k + 1, m8 + 1, A9, c9, by omega, by omega, rfl, by go_num, grown_below (bal hbx8 _) hg9 (own_below hown8 (bal (Below.refl _ _) _)), by rw [HE4.out, shps_app]; exact hown9⟩
                    case measure => simp [intOf]; omega
      · obtain rfl : k = p := by omega
        obtain rfl : mm = m := by rw [← HM.out, HSC.out]; have := (own_sl hown).1; rw [shps_len] at this; omega
        go_wp2
        go_ret
        exact ⟨A5, c5, rfl, by rw [HSC.out]; exact own_sl hown, btr B1 hbr⟩
end Go.Proofs.Ytbpgehaflbacmaa
