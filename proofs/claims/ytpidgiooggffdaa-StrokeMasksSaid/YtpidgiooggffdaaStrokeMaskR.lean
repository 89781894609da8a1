/- The reference's Mask: the bytes that a stroke covers. -/
import Derived.Test.YtpidgiooggffdaaStrokeR5
import Derived.Test.YtpidgiooggffdaaStrokeMask1
import Derived.Test.YtpidgiooggffdaaStrokeMask2
namespace Go.Proofs.Ytpidgiooggffdaa
open Go.RowKit Go.BigFrame

theorem StIn.of_block {w w' : World} {g : Nat} {a b c : Int} (h : StIn w g a b c) (hb : w'.heap[g]? = w.heap[g]?) (hs : w.heap.size ≤ w'.heap.size) : StIn w' g a b c :=
  ⟨Nat.lt_of_lt_of_le h.lt hs, (World.cell?_of_block (a := ⟨g, 0, none⟩) hb).trans h.c0, (World.cell?_of_block (a := ⟨g, 1, none⟩) hb).trans h.c1, (World.cell?_of_block (a := ⟨g, 2, none⟩) hb).trans h.c2⟩
theorem w16 {i : Nat} (h : i < 64) : wrap64 (16 * (i : Int)) = 16 * (i : Int) ∧ wrap64 (16 * (i : Int) + 8) = 16 * (i : Int) + 8 := ⟨IntWalk.wrap64_in _ (by omega), IntWalk.wrap64_in _ (by omega)⟩
theorem wQ {Q i N : Nat} (h : Q + i < N) (hN : N ≤ 4096) : wrap64 (Q : Int) = (Q : Int) ∧ wrap64 ((Q : Int) + (i : Int)) = (Q : Int) + (i : Int) ∧ (Q : Int) + (i : Int) < (N : Int) ∧ (0 : Int) ≤ (Q : Int) + (i : Int) := ⟨IntWalk.wrap64_in _ (by omega), IntWalk.wrap64_in _ (by omega), by omega, by omega⟩
theorem side_yes {a : Nat} (h : 1 ≤ a ∧ a ≤ 64) : sideB (a : Int) = true := by unfold sideB; simp; omega
theorem pix {a j i : Nat} (hi : i < a) : (a * j + i) % a = i ∧ (a * j + i) / a = j := by
  have ha : 0 < a := by omega
  exact ⟨by rw [Nat.mul_add_mod]; exact Nat.mod_eq_of_lt hi, by rw [Nat.mul_add_div ha, Nat.div_eq_of_lt hi]; rfl⟩
theorem pix_lt {a b j i : Nat} (hi : i < a) (hj : j < b) : a * j + i < a * b := by
  have : a * (j + 1) ≤ a * b := Nat.mul_le_mul_left a hj
  rw [Nat.mul_succ] at this
  omega
set_option maxRecDepth 100000 in
set_option maxHeartbeats 400000 in
theorem ref_Mask_ok (A : Option Addr) (n c : Nat) (l : List Sg) (wd cp jn : Int) (a b : Nat) (w : World) (h : Sl w 5 A n (sgs l)) (ha : 1 ≤ a ∧ a ≤ 64) (hb : 1 ≤ b ∧ b ≤ 64)
    (hpl : plainB l = true) (hms : mayS ⟨wd, cp, jn⟩ = true) :
    Calls Try.prog 7 #[.slice A n c, .agg #[.int .i64 wd, .int .i64 cp, .int .i64 jn], .int .i64 (a : Int), .int .i64 (b : Int)] w
      fun e w' => ∃ g : Nat, e = .returned (.tuple #[maskV a b (.slice (some ⟨g, 0, none⟩) (a * b) (a * b)), .int .i64 0]) ∧ ByRow w' g (a * b) (maskL (covL l ⟨wd, cp, jn⟩) a b) ∧ Below w.heap.size w w' := by
  obtain ⟨w0, hw0⟩ : ∃ w0 : World, w0 = (w.alloc (.cells #[.int .i64 wd, .int .i64 cp, .int .i64 jn] 24)).alloc (.cells #[.int .i64 0, .int .i64 0, .slice none 0 0] 28) := ⟨_, rfl⟩
  have k0' : w0.heap[w.heap.size + 1]? = some (.cells #[.int .i64 0, .int .i64 0, .slice none 0 0] 28 (0, 0)) := by
    rw [hw0]; have := heap_alloc_new (w.alloc (.cells #[.int .i64 wd, .int .i64 cp, .int .i64 jn] 24)) (.cells #[.int .i64 0, .int .i64 0, .slice none 0 0] 28); rw [show (w.alloc (.cells #[.int .i64 wd, .int .i64 cp, .int .i64 jn] 24)).heap.size = w.heap.size + 1 by simp] at this; exact this
  have k0 := Lib.hid k0'
  clear k0'
  have hst : StIn w0 w.heap.size wd cp jn := by rw [hw0]; exact (StIn.new _ _ _).below (bal (Below.refl _ _) _)
  have B0 : Below w.heap.size w w0 := by rw [hw0]; exact bal (bal (Below.refl _ _) _) _
  have h0 := h.below B0
  have hap : ∀ b' o, A = some ⟨b', o, none⟩ → 0 < n → b' < w.heap.size := fun b' o e hn => by
    obtain ⟨b1, o1, e1, hlt, _⟩ := h.2 hn
    rw [e] at e1; injection e1 with e1; injection e1 with e1 e2; omega
  have HAP := Lib.hid hap
  clear h hap
  have hPL := plainB_iff.1 hpl
  have hn3 : n ≤ 300 := by have := (mayB_from hPL.1).2; have := h0.sglen; omega
  have hab : (a : Int) * (b : Int) = ((a * b : Nat) : Int) := by simp
  have habn : a * b ≤ 4096 := Nat.le_trans (Nat.mul_le_mul ha.2 hb.2) (by omega)
  have hcov : ∀ i j : Nat, i < 64 → j < 64 → inL l ⟨wd, cp, jn⟩ (16 * (i : Int) + 8) (16 * (j : Int) + 8) = covL l ⟨wd, cp, jn⟩ (16 * (i : Int) + 8) (16 * (j : Int) + 8) := fun i j hi hj => by
    unfold inL; rw [hpl, hms, co_iff.2 (by omega), co_iff.2 (by omega)]; rfl
  obtain ⟨N, hN⟩ : ∃ N, a * b = N := ⟨_, rfl⟩
  rw [hN] at hab habn
  have HPL := Lib.hid hpl
  have HMS := Lib.hid hms
  have HCV := Lib.hid hcov
  have HN := Lib.hid hN
  have HSA := Lib.hid (side_yes ha)
  have HSB := Lib.hid (side_yes hb)
  have HMK : ∀ W : World, (Instr.makeSlice 26 (.int .i64 ((a : Int) * (b : Int))) (.int .i64 ((a : Int) * (b : Int)))).run Try.prog W = .ok (.slice (some ⟨W.heap.size, 0, none⟩) N N) (W.alloc (.cells (madeCells #[.int .u8 0] N) 5)) := fun W => mk_bytesM W N _ hab (by omega)
  have hwr : wrap64 ((a : Int) * (b : Int)) = (a : Int) * (b : Int) := IntWalk.wrap64_in _ (by rw [hab]; omega)
  obtain ⟨ha1, ha2⟩ := ha
  obtain ⟨hb1, hb2⟩ := hb
  clear hPL hpl hms hcov hN hab
  go_enter Try.func7, Try.ntmps7
  go_wp2_with fail
  rw [← hw0]
  clear hw0
  refine (ref_Straight_all A n c l _ (by omega) h0).mono ?_; rintro e w1 ⟨rfl, hb1'⟩
  rw [HPL.out]
  have k1 : Hid (w1.heap[w.heap.size + 1]? = some (.cells #[.int .i64 0, .int .i64 0, .slice none 0 0] 28 (0, 0))) := (hb1'.block _ (hid_lt k0)).trans k0.out
  have B1 := btr B0 hb1'
  have hst1 := hst.below hb1'
  have h1 := h0.below hb1'
  obtain ⟨s0, s1, s2⟩ : w1.cell? ⟨w.heap.size, 0, none⟩ = some (.int .i64 wd) ∧ w1.cell? ⟨w.heap.size, 1, none⟩ = some (.int .i64 cp) ∧ w1.cell? ⟨w.heap.size, 2, none⟩ = some (.int .i64 jn) := ⟨hst1.c0, hst1.c1, hst1.c2⟩
  clear k0 hb1' B0 h0 hst
  go_wp2_with fail
  refine (ref_MaySt_any ⟨wd, cp, jn⟩ _).mono ?_; rintro e w2 ⟨rfl, hb2'⟩
  rw [HMS.out]
  have k2 : Hid (w2.heap[w.heap.size + 1]? = some (.cells #[.int .i64 0, .int .i64 0, .slice none 0 0] 28 (0, 0))) := (hb2'.block _ (hid_lt k1)).trans k1.out
  have B2 := btr B1 hb2'
  have hst2 := hst1.below hb2'
  have h2 := h1.below hb2'
  clear s0 s1 s2 k1 hb2' B1 h1 hst1
  obtain ⟨s0, s1, s2⟩ : w2.cell? ⟨w.heap.size, 0, none⟩ = some (.int .i64 wd) ∧ w2.cell? ⟨w.heap.size, 1, none⟩ = some (.int .i64 cp) ∧ w2.cell? ⟨w.heap.size, 2, none⟩ = some (.int .i64 jn) := ⟨hst2.c0, hst2.c1, hst2.c2⟩
  have hz2 := hst2.lt
  go_wp2_with fail
  refine (IsSide_any _ _).mono ?_; rintro e w3 ⟨rfl, rfl⟩
  rw [HSA.out]
  go_wp2_with fail
  refine (IsSide_any _ _).mono ?_; rintro e w3 ⟨rfl, rfl⟩
  rw [HSB.out]
  obtain ⟨g, hg⟩ : ∃ g, g = w2.heap.size := ⟨_, rfl⟩
  obtain ⟨w3, hw3⟩ : ∃ w3 : World, w3 = (w2.alloc (.cells (madeCells #[.int .u8 0] N) 5)).alloc (.cells #[.int .i64 (a : Int), .int .i64 (b : Int), .slice (some ⟨w2.heap.size, 0, none⟩) N N] 28) := ⟨_, rfl⟩
  have hb23 : Below w2.heap.size w2 w3 := by rw [hw3]; exact bal (bal (Below.refl _ _) _) _
  have hR3 : ByRow w3 g N (List.replicate N 0) := by rw [hw3, hg]; exact (ByRow.new w2 N _).below (bal (Below.refl _ _) _)
  have km3' : w3.heap[g + 1]? = some (.cells #[.int .i64 (a : Int), .int .i64 (b : Int), .slice (some ⟨g, 0, none⟩) N N] 28 (0, 0)) := by
    rw [hw3, hg]; have := heap_alloc_new (w2.alloc (.cells (madeCells #[.int .u8 0] N) 5)) (.cells #[.int .i64 (a : Int), .int .i64 (b : Int), .slice (some ⟨w2.heap.size, 0, none⟩) N N] 28); rw [show (w2.alloc (.cells (madeCells #[.int .u8 0] N) 5)).heap.size = w2.heap.size + 1 by simp] at this; exact this
  have km3 := Lib.hid km3'
  have hgw : w.heap.size + 1 < g := by rw [hg]; exact hid_lt k2
  have B3 := btr B2 hb23
  have k3 : Hid (w3.heap[w.heap.size + 1]? = some (.cells #[.int .i64 0, .int .i64 0, .slice none 0 0] 28 (0, 0))) := (hb23.block _ (hid_lt k2)).trans k2.out
  have h3 := h2.below hb23
  have hst3 := hst2.below hb23
  obtain ⟨F, hF⟩ : ∃ F, F = covL l ⟨wd, cp, jn⟩ := ⟨_, rfl⟩
  have HF := Lib.hid hF
  have HCF : Hid (∀ i j : Nat, i < 64 → j < 64 → inL l ⟨wd, cp, jn⟩ (16 * (i : Int) + 8) (16 * (j : Int) + 8) = F (16 * (i : Int) + 8) (16 * (j : Int) + 8)) := by rw [hF]; exact HCV.out
  have HM3 := Lib.hid (show maskTo F a N 0 = List.replicate N 0 from maskTo_zero F a N)
  go_wp2
  rw [← hw3, ← hg]
  clear hw3 hg s0 s1 s2 hz2 hst2 k2 h2 B2 hb23 HMK km3' hF HCV hwr
  go_loopw [11] (fun s11 wr => ∃ j : Nat, j ≤ b ∧ s11 = .int .i64 (j : Int) ∧ ByRow wr g N (maskTo F a N (a * j)) ∧ w3.grownBy wr (some g)) (fun s11 _ => b - (intOf s11).toNat)
  case atStart => exact ⟨0, by omega, rfl, by rw [Nat.mul_zero, HM3.out]; exact hR3, grefl _ _⟩
  case round =>
    obtain ⟨wo, rfl⟩ : ∃ wo : World, wo = wr := ⟨_, rfl⟩
    obtain ⟨j, hj, rfl, hR, hG⟩ := hrel
    clear hR3
    by_cases hjb : j < b
    · go_wp2
      go_loopw [12] (fun s12 wr => ∃ i : Nat, i ≤ a ∧ s12 = .int .i64 (i : Int) ∧ ByRow wr g N (maskTo F a N (a * j + i)) ∧ w3.grownBy wr (some g)) (fun s12 _ => a - (intOf s12).toNat)
      case atStart => exact ⟨0, by omega, rfl, hR, hG⟩
      case round =>
        obtain ⟨wi, rfl⟩ : ∃ wi : World, wi = wr := ⟨_, rfl⟩
        obtain ⟨i, hi, rfl, hRi, hGi⟩ := hrel
        clear hR hG
        by_cases hia : i < a
        · have hi64 : i < 64 := by omega
          have hj64 : j < 64 := by omega
          have hiN : a * j + i < N := by rw [← HN.out]; exact pix_lt hia hjb
          obtain ⟨hX, hY⟩ := pix (j := j) hia
          have hso := sl_kept h3 hGi (fun b' o e h0 => by have := HAP.out b' o e h0; omega)
          have hbst : wi.heap[w.heap.size]? = w3.heap[w.heap.size]? := hGi.block _ hst3.lt (by simp; omega)
          have hsti : StIn wi w.heap.size wd cp jn := StIn.of_block hst3 hbst hGi.size
          have hcf := HCF.out i j hi64 hj64
          have hst0 := maskTo_same F a N (a * j + i) hiN
          have hst1 := maskTo_one F a N (a * j + i) hiN
          rw [hX, hY] at hst0 hst1
          have H0 := Lib.hid hst0
          have H1 := Lib.hid hst1
          have HC := Lib.hid hcf
          obtain ⟨s0, s1, s2⟩ : wi.cell? ⟨w.heap.size, 0, none⟩ = some (.int .i64 wd) ∧ wi.cell? ⟨w.heap.size, 1, none⟩ = some (.int .i64 cp) ∧ wi.cell? ⟨w.heap.size, 2, none⟩ = some (.int .i64 jn) := ⟨hsti.c0, hsti.c1, hsti.c2⟩
          have hzi := hsti.lt
          have kmi : Hid (wi.heap[g + 1]? = some (.cells #[.int .i64 (a : Int), .int .i64 (b : Int), .slice (some ⟨g, 0, none⟩) N N] 28 (0, 0))) := (hGi.block _ (hid_lt km3) (by simp)).trans km3.out
          obtain ⟨hw1, hw2⟩ := w16 hi64
          obtain ⟨hw3', hw4⟩ := w16 hj64
          obtain ⟨Q, hQ⟩ : ∃ Q, a * j = Q := ⟨_, rfl⟩
          have hQI : (a : Int) * (j : Int) = (Q : Int) := by rw [← hQ]; simp
          rw [hQ] at hiN hRi H0 H1
          obtain ⟨hwQ, hwK, hQ4, hQ5⟩ := wQ hiN habn
          have HQ := Lib.hid hQ
          clear hQ
          clear hst0 hst1 hX hY hcf hsti
          have HQS := Lib.hid (And.intro hQI (And.intro hwQ (And.intro hwK (And.intro hQ4 hQ5))))
          clear hQI hwQ hwK hQ4 hQ5
          go_wp2_with fail
          with_reducible refine (ref_In_any A n c l wd cp jn _ _ _ (by omega) hso).mono ?_; rintro e wE ⟨rfl, hbE⟩
          rw [HC.out]
          have hRE := hRi.below hbE
          have kmE := (hbE.block _ (hid_lt kmi)).trans kmi.out
          have KME := Lib.hid kmE
          have d2 : wE.cell? ⟨g + 1, 2, none⟩ = some (.slice (some ⟨g, 0, none⟩) N N) := blk_cell 2 KME
          have GE := gbel hGi hbE
          have hil : Q + i < (maskTo F a N (Q + i)).length := by rw [hRE.len]; exact hiN
          have hcg := hRE.cell (Q + i) _ (List.getElem?_eq_getElem hil)
          have hfg := hRE.nf (Q + i)
          clear kmE hRi hGi kmi hbE hso s0 s1 s2 hzi
          clear hw1 hw2 hw3' hw4
          cases hr : F (16 * (i : Int) + 8) (16 * (j : Int) + 8)
          · have h9 := H0.out hr
            have H9 := Lib.hid h9
            clear h9 hr
            go_wp2
            exact ⟨⟨i + 1, by omega, by go_num, by rw [← Nat.add_assoc, HQ.out, H9.out]; exact hRE, GE⟩, by simp [intOf]; omega⟩
          · have h9 := H1.out hr
            have H9 := Lib.hid h9
            clear h9 hr
            have hQI := HQS.out.1
            have hQ4 : (Q : Int) + (i : Int) < (N : Int) := HQS.out.2.2.2.1
            have hQ5 : (0 : Int) ≤ (Q : Int) + (i : Int) := HQS.out.2.2.2.2
            obtain ⟨bv, hbv⟩ : ∃ bv : Nat, wE.cell? ⟨g, Q + i, none⟩ = some (.int .u8 (bv : Int)) := ⟨_, hcg⟩
            clear HQS H0 H1 HC HCF HM3 d2 hcg hil
            have d2 : wE.cell? ⟨g + 1, 2, none⟩ = some (.slice (some ⟨g, 0, none⟩) N N) := blk_cell 2 KME
            go_wp2
            exact ⟨⟨i + 1, by omega, by go_num, by rw [← Nat.add_assoc, HQ.out, H9.out]; exact hRE.set hiN 1, gset_same GE (Q + i) _⟩, by simp [intOf]; omega⟩
        · obtain rfl : i = a := by omega
          go_wp2
          exact ⟨⟨j + 1, by omega, by go_num, by rw [Nat.mul_succ]; exact hRi, hGi⟩, by simp [intOf]; omega⟩
    · obtain rfl : j = b := by omega
      have kmo : Hid (wo.heap[g + 1]? = some (.cells #[.int .i64 (a : Int), .int .i64 (j : Int), .slice (some ⟨g, 0, none⟩) N N] 28 (0, 0))) := (hG.block _ (hid_lt km3) (by simp)).trans km3.out
      have ko : Hid (wo.heap[w.heap.size + 1]? = some (.cells #[.int .i64 0, .int .i64 0, .slice none 0 0] 28 (0, 0))) := (hG.block _ (hid_lt k3) (by simp; omega)).trans k3.out
      have c0 := fun i => blk_cell i ko
      have f0 := fun i => blk_frozen i ko
      have d0 := fun i => blk_cell i kmo
      have hgo : g < wo.heap.size := hR.lt
      rw [HN.out] at hR
      have HML := Lib.hid (maskTo_all F a j)
      go_wp2
      obtain ⟨w9, hw9⟩ : ∃ w9 : World, w9 = ((wo.setCell ⟨w.heap.size + 1, 0, none⟩ (.int .i64 (a : Int))).setCell ⟨w.heap.size + 1, 1, none⟩ (.int .i64 (j : Int))).setCell ⟨w.heap.size + 1, 2, none⟩ (.slice (some ⟨g, 0, none⟩) N N) := ⟨_, rfl⟩
      have B9 : Below w.heap.size w w9 := by rw [hw9]; exact bset (bset (bset (B3.grown hG B3.size fun k hk => by cases hk; omega) (by simp) _) (by simp) _) (by simp) _
      have G9 : Off9 wo w9 (w.heap.size + 1) := by rw [hw9]; exact fun k hk => by rw [heap_setCell_other _ _ _ _ (by simp; omega), heap_setCell_other _ _ _ _ (by simp; omega), heap_setCell_other _ _ _ _ (by simp; omega)]
      have r0 : w9.cell? ⟨w.heap.size + 1, 0, none⟩ = some (.int .i64 (a : Int)) := by rw [hw9, World.cell?_setCell_other _ _ _ _ (by simp), World.cell?_setCell_other _ _ _ _ (by simp)]; exact World.cell?_setCell_same _ _ _ (c0 0)
      have r1 : w9.cell? ⟨w.heap.size + 1, 1, none⟩ = some (.int .i64 (j : Int)) := by rw [hw9, World.cell?_setCell_other _ _ _ _ (by simp)]; exact World.cell?_setCell_same _ _ _ ((World.cell?_setCell_other _ _ _ _ (by simp)).trans (c0 1))
      have r2 : w9.cell? ⟨w.heap.size + 1, 2, none⟩ = some (.slice (some ⟨g, 0, none⟩) N N) := by rw [hw9]; exact World.cell?_setCell_same _ _ _ ((World.cell?_setCell_other _ _ _ _ (by simp)).trans ((World.cell?_setCell_other _ _ _ _ (by simp)).trans (c0 2)))
      rw [← hw9]
      refine bodyPost_ret (v := .tuple #[maskV a j (.slice (some ⟨g, 0, none⟩) N N), .int .i64 0]) (by simp [results, Try.results7, go_sem, r0, r1, r2, maskV]) rfl ?_
      have hml := HML.out
      rw [HN.out] at hml
      rw [HN.out, ← HF.out, ← hml]
      exact ⟨g, rfl, hR.off G9 (by omega) (by rw [hw9]; simp [World.setCell]), B9⟩
end Go.Proofs.Ytpidgiooggffdaa
