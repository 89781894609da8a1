/- The walk of FlatAgain: it returns true. -/
import Derived.Test.YtpompbpdhahljaaFlatMade
import Derived.Test.YtpompbpdhahljaaCts
import Derived.Test.YtpompbpdhahljaaAgP
import Derived.Test.YtpompbpdhahljaaLex
namespace Go.Proofs.Ytpompbpdhahljaa
open Go.RowKit

theorem ctsL_es (l : List Sg) : ∀ c ∈ ctsL l, c.es.length ≤ l.length := by
  intro c hc
  unfold ctsL at hc
  split at hc
  · simp at hc
  · exact ct_es l c hc
theorem ctsL_len (l : List Sg) : (ctsL l).length ≤ l.length := by
  unfold ctsL
  split
  · simp
  · exact ct_len l
theorem endOf_get (es : List Ed) (h : es.length - 1 < es.length) : endOf es = some (es[es.length - 1].x1, es[es.length - 1].y1) := by
  unfold endOf; rw [List.getLast?_eq_getElem?, List.getElem?_eq_getElem h]; rfl

theorem ends_one {es fs : List Ed} {u v : Nat} (ha : es.length = u) (hb : fs.length = v) (h : endOf fs = endOf es) (hu : 0 < u) (huv : u ≤ v) :
    ∃ X Y, (∀ h : u - 1 < es.length, es[u - 1].x1 = X ∧ es[u - 1].y1 = Y) ∧ (∀ h : v - 1 < fs.length, fs[v - 1].x1 = X ∧ fs[v - 1].y1 = Y) := by
  subst ha; subst hb
  rw [endOf_get _ (by omega), endOf_get _ (by omega)] at h
  injection h with h
  injection h with hX hY
  exact ⟨_, _, fun _ => ⟨rfl, rfl⟩, fun _ => ⟨hX, hY⟩⟩

set_option maxRecDepth 100000 in
set_option maxHeartbeats 20000000 in
theorem FlatAgain_any (A : Option Addr) (n c : Nat) (w : World) (h : InA w A n) (hnc : n ≤ c) (hcm : c ≤ 9223372036854775807) :
    Calls Try.prog 6 #[.slice A n c] w fun e w' => e = .returned (.bool true) ∧ Below w.heap.size w w' := by
  go_enter Try.func6, Try.ntmps6
  go_wp2_with fail
  refine (known27_any _).mono ?_; rintro e w1 ⟨rfl, hb1⟩
  go_wp2_with fail
  refine (Made_any A n c true w1 (h.below hb1) hnc hcm).mono ?_; rintro e w2 ⟨l, A2, c2, rfl, hown2, hmd, hb2⟩
  have hp2 := own_sl hown2
  have hmay := hmd.may
  have B2 : Below w.heap.size w w2 := btr hb1 hb2
  have hl12 := hmd.2.1
  clear hb1 hb2 hown2 hmd
  by_cases hov : 300 < (flatL l).length
  · have hE : flatE l = ([], 5) := by simp [flatE, hmay, hov]
    have hE2 : flatE [] = ([], 0) := rfl
    have HE := Lib.hid hE
    clear hE hov hmay
    go_wp2_with fail
    refine (flat_Path_any _ _ _ l _ _ (by omega) hp2 HE.out).mono ?_; rintro e w3 ⟨A3, c3, rfl, hown3, hb3⟩
    have hq3 := own_sl hown3
    go_wp2_with fail
    refine (flat_Path_any _ _ _ [] _ _ (by decide) hq3 hE2).mono ?_; rintro e w4 ⟨A4, c4, rfl, hown4, hb4⟩
    go_wp2
    go_ret
    exact ⟨rfl, btr (btr B2 hb3) hb4⟩
  · obtain ⟨L, hL⟩ : ∃ L, flatL l = L := ⟨_, rfl⟩
    have hlen : L.length ≤ 300 := by rw [← hL]; omega
    have hE : flatE l = (L, 0) := by rw [← hL]; exact flatE_all hmay (by omega)
    have hE2 : flatE L = (L, 0) := by rw [← hL]; exact flatE_again hmay (by omega)
    have hR := ctsL_flat hmay (by omega)
    rw [hL] at hR
    obtain ⟨ca, hca⟩ : ∃ ca, ctsL l = ca := ⟨_, rfl⟩
    obtain ⟨cb, hcb⟩ : ∃ cb, ctsL L = cb := ⟨_, rfl⟩
    rw [hca, hcb] at hR
    obtain ⟨na, hna⟩ : ∃ na, ca.length = na := ⟨_, rfl⟩
    have hnb : cb.length = na := by rw [← hR.length]; exact hna
    have hna3 : na ≤ 300 := by
      have h1 := ctsL_len l
      rw [hca, hna] at h1; omega
    have HE := Lib.hid hE
    have HE2 := Lib.hid hE2
    have HCA := Lib.hid hca
    have HCB := Lib.hid hcb
    have HR := Lib.hid hR
    have HNA := Lib.hid hna
    have HNB := Lib.hid hnb
    clear hE hE2 hov hmay hca hcb hR hna hnb hL
    go_wp2_with fail
    refine (flat_Path_any _ _ _ l _ _ (by omega) hp2 HE.out).mono ?_; rintro e w3 ⟨A3, c3, rfl, hown3, hb3⟩
    have hq3 := own_sl hown3
    have hp3 := hp2.below hb3
    have B3 : Below w.heap.size w w3 := btr B2 hb3
    clear hb3 hown3 hp2 B2
    go_wp2_with fail
    refine (flat_Path_any _ _ _ L _ _ (by omega) hq3 HE2.out).mono ?_; rintro e w4 ⟨A4, c4, rfl, hown4, hb4⟩
    have hr4 := own_sl hown4
    have hp4 := hp3.below hb4
    have hq4 := hq3.below hb4
    have B4 : Below w.heap.size w w4 := btr B3 hb4
    clear hb4 hown4 hp3 hq3 B3
    go_wp2_with fail
    refine (Contours_any _ _ _ l ca _ (by omega) hp4 HCA.out).mono ?_; rintro e w5 ⟨A5, c5, rfl, ha5, hb5⟩
    have hq5 := hq4.below hb5
    have hr5 := hr4.below hb5
    have B5 : Below w.heap.size w w5 := btr B4 hb5
    clear hb5 hp4 hq4 hr4 B4
    go_wp2_with fail
    refine (Contours_any _ _ _ L cb _ (by omega) hq5 HCB.out).mono ?_; rintro e w6 ⟨A6, c6, rfl, hb6', hb6⟩
    have ha6 := ha5.below hb6
    have hq6 := hq5.below hb6
    have hr6 := hr5.below hb6
    have B6 : Below w.heap.size w w6 := btr B5 hb6
    clear hb6 ha5 hq5 hr5 B5
    rw [HNA.out] at ha6
    rw [HNB.out] at hb6'
    rw [HNA.out, HNB.out]
    have hee : ((na : Int) != (na : Int)) = false := by simp
    go_wp2_with fail
    refine (sameSg_any _ _ _ _ _ _ L _ (by omega) hq6 hr6).mono ?_; rintro e w7 ⟨rfl, q7, rfl⟩
    go_wp2
    have HQ6 := Lib.hid hq6
    have HR6 := Lib.hid hr6
    clear hq6 hr6
    go_loopw [10] (fun i wr => ∃ k q : Nat, k ≤ na ∧ i = .int .i64 (k : Int) ∧ w6.drewN q = wr) (fun i _ => na - (intOf i).toNat)
    case atStart => exact ⟨0, q7, by omega, rfl, rfl⟩
    case round =>
      obtain ⟨k, q, hk, rfl, rfl⟩ := hrel
      by_cases hlt : k < na
      · have hka : k < ca.length := by rw [HNA.out]; exact hlt
        have hkb : k < cb.length := by rw [HNB.out]; exact hlt
        have hcc := HR.out.get k hka hkb
        obtain ⟨bA, oA, AA, cA, rfl, hbA, a0, a1, a2, a3, hsA⟩ := ha6.get k hlt hka
        obtain ⟨bB, oB, AB, cB, rfl, hbB, b0, b1, b2, b3, hsB⟩ := hb6'.get k hlt hkb
        obtain ⟨ac, hac⟩ : ∃ ac, ac = ca[k] := ⟨_, rfl⟩
        obtain ⟨bc, hbc⟩ : ∃ bc, bc = cb[k] := ⟨_, rfl⟩
        rw [← hac] at hcc a0 a1 a2 a3 hsA
        rw [← hbc] at hcc b0 b1 b2 b3 hsB
        obtain ⟨r1, r2, r3, r4, r5, r6⟩ := hcc
        rw [← r1] at b0
        rw [← r2] at b1
        rw [← r3] at b3
        have R5 := Lib.hid r5
        obtain ⟨u, hu⟩ : ∃ u, ac.es.length = u := ⟨_, rfl⟩
        obtain ⟨v, hv⟩ : ∃ v, bc.es.length = v := ⟨_, rfl⟩
        rw [hu] at r4 a2 hsA
        rw [hv] at r4 b2 hsB
        have HV := Lib.hid hv
        have hv3 : v ≤ 300 := by
          have h1 := ctsL_es L bc (by rw [hbc, HCB.out]; exact List.getElem_mem hkb)
          rw [hv] at h1; omega
        have hd1 : decide ((v : Int) < (u : Int)) = false := by simp; omega
        have hd1n : decide (v < u) = false := by simp; omega
        by_cases hu0 : u = 0
        · have hd2 : decide (0 < (u : Int)) = false := by simp; omega
          have hd2' : decide ((u : Int) > 0) = false := by simp; omega
          have hd4 : decide (0 < u) = false := by simp; omega
          have hd5 : ¬ 0 < u := by omega
          clear r1 r2 r3 r5 r6 hac hbc hka hkb hu0 hu hv
          go_wp2
          go_big_quiet (fail)
          go_wp2
          simp only [List.append]
          refine wp_region_quiet_lit (by kernel_rfl) (lexB_of (base := 75) (by kernel_rfl)) ?_
          repeat go_big_quiet_step (fail)
          refine wpQuiet_nil ?_
          intro _ hw'
          obtain ⟨nq, hw''⟩ := hw'
          subst hw''
          go_wp2
          go_loopw [13] (fun ci wi => ∃ z q' : Nat, z ≤ v ∧ ci = .int .i64 (z : Int) ∧ w6.drewN q' = wi) (fun ci _ => v - (intOf ci).toNat)
          case atStart => exact ⟨0, _, by omega, rfl, by rw [World.drewN_drewN, World.drewN_drewN]⟩
          case round =>
            obtain ⟨z, q', hz, rfl, rfl⟩ := hrel
            by_cases hzv : z < v
            · have hzl : z < bc.es.length := by rw [HV.out]; exact hzv
              have hbz := R5.out bc.es[z] (List.getElem_mem hzl)
              obtain ⟨bE, oE, eE, hbE, -, -, e2, -, -, -, -⟩ := hsB.ed z hzv hzl
              rw [hbz] at e2
              subst eE
              go_wp2
              go_roundw
              case rel => exact ⟨z + 1, q', by omega, by go_num, rfl⟩
              case measure => simp [intOf]; omega
            · obtain rfl : z = v := by omega
              go_wp2
              go_roundw
              case rel => exact ⟨k + 1, q', by omega, by go_num, rfl⟩
              case measure => simp [intOf]; omega
        · have hd2 : decide (0 < (u : Int)) = true := by simp; omega
          have hd2' : decide ((u : Int) > 0) = true := by simp; omega
          have hd4 : decide (0 < u) = true := by simp; omega
          have hd5 : 0 < u := by omega
          have hd6 : (v == 0) = false := by simp; omega
          have hd3 : ((v : Int) == 0) = false := by simp; omega
          obtain ⟨X, Y, hXa, hXb⟩ := ends_one hu hv (r6 (fun h => by rw [h] at hu; exact hu0 hu.symm)) (by omega) r4
          obtain ⟨hXa1, hXa2⟩ := hXa (by omega)
          obtain ⟨hXb1, hXb2⟩ := hXb (by omega)
          obtain ⟨bU, oU, rfl, hbU, -, -, -, -, -, f5, f6⟩ := hsA.ed (u - 1) (by omega) (by omega)
          have hsB' := hsB
          obtain ⟨bV, oV, rfl, hbV, -, -, -, -, -, g5, g6⟩ := hsB.ed (v - 1) (by omega) (by omega)
          rw [hXa1] at f5
          rw [hXa2] at f6
          rw [hXb1] at g5
          rw [hXb2] at g6
          have hu1 : 1 ≤ u := by omega
          have hv1 : 1 ≤ v := by omega
          clear r1 r2 r3 r5 r6 hac hbc hka hkb hXa hXb hXa1 hXa2 hXb1 hXb2 hu0 hu hv
          go_wp2
          go_big_quiet (fail)
          go_wp2
          simp only [List.append]
          refine wp_region_quiet_lit (by kernel_rfl) (lexB_of (base := 75) (by kernel_rfl)) ?_
          repeat go_big_quiet_step (fail)
          refine wpQuiet_nil ?_
          intro _ hw'
          obtain ⟨nq, hw''⟩ := hw'
          subst hw''
          go_wp2
          go_loopw [13] (fun ci wi => ∃ z q' : Nat, z ≤ v ∧ ci = .int .i64 (z : Int) ∧ w6.drewN q' = wi) (fun ci _ => v - (intOf ci).toNat)
          case atStart => exact ⟨0, _, by omega, rfl, by rw [World.drewN_drewN, World.drewN_drewN]⟩
          case round =>
            obtain ⟨z, q', hz, rfl, rfl⟩ := hrel
            by_cases hzv : z < v
            · have hzl : z < bc.es.length := by rw [HV.out]; exact hzv
              have hbz := R5.out bc.es[z] (List.getElem_mem hzl)
              obtain ⟨bE, oE, eE, hbE, -, -, e2, -, -, -, -⟩ := hsB'.ed z hzv hzl
              rw [hbz] at e2
              injection eE with eE; injection eE with eE1 eE2; subst eE1; subst eE2
              go_wp2
              go_roundw
              case rel => exact ⟨z + 1, q', by omega, by go_num, rfl⟩
              case measure => simp [intOf]; omega
            · obtain rfl : z = v := by omega
              go_wp2
              go_roundw
              case rel => exact ⟨k + 1, q', by omega, by go_num, rfl⟩
              case measure => simp [intOf]; omega
      · obtain rfl : k = na := by omega
        clear ha6 hb6' HE HE2 HCA HCB HR HNA HNB HQ6 HR6
        have hin6 := h.below (bdrewN B6 q)
        go_wp2_with fail
        refine (Made_any A n c false _ hin6 hnc hcm).mono ?_; rintro e w8 ⟨l8, A8, c8, rfl, hown8, hmd8, hb8⟩
        have hp8 := own_sl hown8
        have hE8 := flatE_nobow hmd8.may (hmd8.2.2.2 rfl)
        have hl8 := hmd8.2.1
        have B8 : Below w.heap.size w w8 := btr (bdrewN B6 q) hb8
        clear hb8 hown8 hmd8
        go_wp2_with fail
        refine (flat_Path_any _ _ _ l8 _ _ (by omega) hp8 hE8).mono ?_; rintro e w9 ⟨A9, c9, rfl, hown9, hb9⟩
        have hp9 := hp8.below hb9
        have hq9 := own_sl hown9
        have B9 : Below w.heap.size w w9 := btr B8 hb9
        clear hb9 hown9 hp8
        go_wp2_with fail
        refine (sameSg_any _ _ _ _ _ _ l8 _ (by omega) hp9 hq9).mono ?_; rintro e w10 ⟨rfl, q10, rfl⟩
        go_wp2
        go_ret
        exact ⟨rfl, bdrewN B9 _⟩

end Go.Proofs.Ytpompbpdhahljaa
