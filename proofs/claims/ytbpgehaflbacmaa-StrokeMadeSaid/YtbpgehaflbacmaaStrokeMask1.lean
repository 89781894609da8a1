/- stroke.Mask: the bytes that a stroke covers. -/
import Derived.Test.YtbpgehaflbacmaaStrokeJoins
import Derived.Test.YtbpgehaflbacmaaStrokeWithin
import Derived.Test.YtbpgehaflbacmaaAllP
import Derived.Deep.RegionHeld3
namespace Go.Proofs.Ytbpgehaflbacmaa
open Go.RowKit Go.BigFrame

/-- A mask as a value. -/
def maskV (a b : Int) (v : Value) : Value := .agg #[.int .i64 a, .int .i64 b, v]
theorem u8_infoM : ∃ i, Try.prog.info? 5 = some i ∧ i.zero = some (.int .u8 0) ∧ i.size = 1 ∧ i.bytes = 1 := by
  have h : (Try.prog.info? 5).map (fun i => (i.zero, i.size, i.bytes)) = some (some (.int .u8 0), 1, 1) := by kernel_rfl
  cases hi : Try.prog.info? 5 with
  | none => rw [hi] at h; cases h
  | some i =>
    rw [hi] at h
    simp only [Option.map_some, Option.some.injEq, Prod.mk.injEq] at h
    exact ⟨i, rfl, h.1, h.2.1, h.2.2⟩
theorem mk_bytesM (W : World) (u : Nat) (z : Int) (hz : z = (u : Int)) (h : u ≤ 100000) : (Instr.makeSlice 29 (.int .i64 z) (.int .i64 z)).run Try.prog W = .ok (.slice (some ⟨W.heap.size, 0, none⟩) u u) (W.alloc (.cells (madeCells #[.int .u8 0] u) 5)) := by
  subst hz
  obtain ⟨i, h1, h2, h3, h4⟩ := u8_infoM
  have := run_makeSlice (P := Try.prog) W 29 5 i _ Try.underlying29 h1 h2 .i64 .i64 (u : Int) (u : Int) (by omega) (by omega) (by rw [h3]; simp; omega) (by rw [h4]; simp; omega)
  rw [h3] at this
  simp [Value.cells] at this
  exact this (by omega)
theorem gset_same {w w' : World} {g : Nat} (h : w.grownBy w' (some g)) (i : Nat) (u : Value) : w.grownBy (w'.setCell ⟨g, i, none⟩ u) (some g) :=
  ⟨h.os, h.tape, h.output, by simpa [World.setCell] using h.size, fun k hk hne => (heap_setCell_other w' ⟨g, i, none⟩ k u (fun e => hne (by simp [e]))).trans (h.block k hk hne)⟩
theorem sl_gg {w w' : World} {g s b o n : Nat} {xs : List Value} (h : Sl w s (some ⟨b, o, none⟩) n xs) (hg : w.grownBy w' (some g)) (hne : b ≠ g) : Sl w' s (some ⟨b, o, none⟩) n xs :=
  ⟨h.1, fun hn => by
    obtain ⟨b1, off, e, hlt, hc⟩ := h.2 hn
    injection e with e; injection e with e1 e2
    subst e1; subst e2
    exact ⟨b, o, rfl, Nat.lt_of_lt_of_le hlt hg.size, fun j u hu => (World.cell?_of_block (a := ⟨b, o + j, none⟩) (hg.block b hlt (by simpa using hne))).trans (hc j u hu)⟩⟩
theorem sl_kept {w w' : World} {g s n : Nat} {A : Option Addr} {xs : List Value} (h : Sl w s A n xs) (hg : w.grownBy w' (some g)) (hne : ∀ b o, A = some ⟨b, o, none⟩ → 0 < n → b ≠ g) : Sl w' s A n xs :=
  ⟨h.1, fun hn => by
    obtain ⟨b, o, rfl, hlt, hc⟩ := h.2 hn
    exact ⟨b, o, rfl, Nat.lt_of_lt_of_le hlt hg.size, fun j u hu => (World.cell?_of_block (a := ⟨b, o + j, none⟩) (hg.block b hlt (by simpa using hne b o rfl hn))).trans (hc j u hu)⟩⟩
/-- Only one block may differ. -/
def Off9 (w w' : World) (b : Nat) : Prop := ∀ k, k ≠ b → w'.heap[k]? = w.heap[k]?
theorem ByRow.off {w w' : World} {g n b : Nat} {xs : List Nat} (h : ByRow w g n xs) (ho : Off9 w w' b) (hne : g ≠ b) (hs : w.heap.size ≤ w'.heap.size) : ByRow w' g n xs :=
  ⟨Nat.lt_of_lt_of_le h.lt hs, h.len, fun i => (World.frozen?_of_block (a := ⟨g, i, none⟩) (ho g hne)).trans (h.nf i), fun i x hx => (World.cell?_of_block (a := ⟨g, i, none⟩) (ho g hne)).trans (h.cell i x hx)⟩
/-- Shapes do not lie in a row of bytes. -/
theorem shape_apart {w : World} {g N m : Nat} {A : Option Addr} {L : List Shp} {t : TypeId} (h : Sl w 1 A m (shps L)) (hg : w.heap[g]? = some (.cells (madeCells #[.int .u8 0] N) t (0, 0))) : ∀ b o, A = some ⟨b, o, none⟩ → 0 < m → b ≠ g := by
  rintro b o rfl hm rfl
  obtain ⟨b1, off, e, hlt, hc⟩ := h.2 hm
  injection e with e; injection e with e1 e2
  subst e1; subst e2
  have hl : L.length = m := by have := h.1; rw [shps_len] at this; omega
  have h1 := hc 0 (shv (L[0]'(by omega))) (by simp [shps, show 0 < L.length by omega])
  rw [cell_of_row w b (o + 0) (madeCells #[.int .u8 0] N) t _ hg] at h1
  by_cases ho : o + 0 < N
  · rw [show (madeCells #[.int .u8 0] N)[o + 0]? = some (.int .u8 0) by simp [madeCells, show o < N by omega, Nat.mod_one]] at h1
    cases hs : L[0]'(by omega) <;> rw [hs] at h1 <;> cases h1
  · rw [show (madeCells #[.int .u8 0] N)[o + 0]? = none by simp [madeCells]; omega] at h1
    cases h1
set_option maxRecDepth 100000 in
set_option maxHeartbeats 500000 in
theorem Mask_ok (A : Option Addr) (n c : Nat) (l : List Sg) (wd cp jn : Int) (a b : Nat) (w : World) (h : Sl w 5 A n (sgs l)) (ha : 1 ≤ a ∧ a ≤ 64) (hb : 1 ≤ b ∧ b ≤ 64)
    (hpl : plainB l = true) (hms : mayS ⟨wd, cp, jn⟩ = true) :
    Calls Try.prog 7 #[.slice A n c, .agg #[.int .i64 wd, .int .i64 cp, .int .i64 jn], .int .i64 (a : Int), .int .i64 (b : Int)] w
      fun e w' => ∃ g : Nat, e = .returned (.tuple #[maskV a b (.slice (some ⟨g, 0, none⟩) (a * b) (a * b)), .int .i64 0]) ∧ ByRow w' g (a * b) (maskL (covL l ⟨wd, cp, jn⟩) a b) ∧ Below w.heap.size w w' := by
  obtain ⟨w0, hw0⟩ : ∃ w0 : World, w0 = (w.alloc (.cells #[.int .i64 wd, .int .i64 cp, .int .i64 jn] 27)).alloc (.cells #[.int .i64 0, .int .i64 0, .slice none 0 0] 31) := ⟨_, rfl⟩
  have k0' : w0.heap[w.heap.size + 1]? = some (.cells #[.int .i64 0, .int .i64 0, .slice none 0 0] 31 (0, 0)) := by
    rw [hw0]; have := heap_alloc_new (w.alloc (.cells #[.int .i64 wd, .int .i64 cp, .int .i64 jn] 27)) (.cells #[.int .i64 0, .int .i64 0, .slice none 0 0] 31); rw [show (w.alloc (.cells #[.int .i64 wd, .int .i64 cp, .int .i64 jn] 27)).heap.size = w.heap.size + 1 by simp] at this; exact this
  have k0 := Lib.hid k0'
  clear k0'
  have hst : StIn w0 w.heap.size wd cp jn := by rw [hw0]; exact (StIn.new _ _ _).below (bal (Below.refl _ _) _)
  have B0 : Below w.heap.size w w0 := by rw [hw0]; exact bal (bal (Below.refl _ _) _) _
  have h0 := h.below B0
  clear h
  have hPL := plainB_iff.1 hpl
  have hn3 : n ≤ 300 := by have := (mayB_from hPL.1).2; have := h0.sglen; omega
  have hwd : WideOK wd := ⟨(mayS_iff.1 hms).1, (mayS_iff.1 hms).2.1⟩
  obtain ⟨L, hL⟩ : ∃ L, shL l ⟨wd, cp, jn⟩ = L := ⟨_, rfl⟩
  obtain ⟨m, hm⟩ : ∃ m, L.length = m := ⟨_, rfl⟩
  have hok : ∀ s ∈ L, ShOK s := by rw [← hL]; exact shL_ok hPL.2 hwd
  have hm6 : m ≤ 1000000 := by
    have h1 := shL_bd ⟨wd, cp, jn⟩ (ctsL l) (fun c hc => by have := cts_es l c hc; have := h0.sglen; omega)
    have h2 := cts_len l
    have h3 := h0.sglen
    rw [← hm, ← hL]; unfold shL; omega
  have hab : (a : Int) * (b : Int) = ((a * b : Nat) : Int) := by simp
  have habn : a * b ≤ 4096 := Nat.le_trans (Nat.mul_le_mul ha.2 hb.2) (by omega)
  have hab1 : 1 ≤ a * b := Nat.mul_pos (by omega) (by omega)
  obtain ⟨N, hN⟩ : ∃ N, a * b = N := ⟨_, rfl⟩
  rw [hN] at hab habn hab1
  have hcov : ∀ x y, (L.any fun s => covS s x y) = covL l ⟨wd, cp, jn⟩ x y := fun x y => by rw [← hL]; rfl
  have HPL := Lib.hid hpl
  have HMS := Lib.hid hms
  have HL := Lib.hid hL
  have HM := Lib.hid hm
  have HOK := Lib.hid hok
  have HCV := Lib.hid hcov
  have HN := Lib.hid hN
  have HAB := Lib.hid hab
  have HMK : ∀ W : World, (Instr.makeSlice 29 (.int .i64 ((a : Int) * (b : Int))) (.int .i64 ((a : Int) * (b : Int)))).run Try.prog W = .ok (.slice (some ⟨W.heap.size, 0, none⟩) N N) (W.alloc (.cells (madeCells #[.int .u8 0] N) 5)) := fun W => mk_bytesM W N _ hab (by omega)
  have hwr : wrap64 ((a : Int) * (b : Int)) = (a : Int) * (b : Int) := IntWalk.wrap64_in _ (by rw [hab]; omega)
  obtain ⟨ha1, ha2⟩ := ha
  obtain ⟨hb1, hb2⟩ := hb
  clear hPL hpl hms hL hm hok hcov hwd hN hab
  go_enter Try.func7, Try.ntmps7
  go_wp2_with fail
  rw [← hw0]
  clear hw0
  refine (stroke_plain_any A n c l _ (by omega) h0).mono ?_; rintro e w1 ⟨rfl, hb1'⟩
  rw [HPL.out]
  have k1 : Hid (w1.heap[w.heap.size + 1]? = some (.cells #[.int .i64 0, .int .i64 0, .slice none 0 0] 31 (0, 0))) := (hb1'.block _ (hid_lt k0)).trans k0.out
  have B1 := btr B0 hb1'
  have hst1 := hst.below hb1'
  have h1 := h0.below hb1'
  obtain ⟨s0, s1, s2⟩ : w1.cell? ⟨w.heap.size, 0, none⟩ = some (.int .i64 wd) ∧ w1.cell? ⟨w.heap.size, 1, none⟩ = some (.int .i64 cp) ∧ w1.cell? ⟨w.heap.size, 2, none⟩ = some (.int .i64 jn) := ⟨hst1.c0, hst1.c1, hst1.c2⟩
  clear k0 hb1' B0 h0 hst
  go_wp2_with fail
  refine (stroke_May_any ⟨wd, cp, jn⟩ _).mono ?_; rintro e w2 ⟨rfl, hb2'⟩
  rw [HMS.out]
  have k2 : Hid (w2.heap[w.heap.size + 1]? = some (.cells #[.int .i64 0, .int .i64 0, .slice none 0 0] 31 (0, 0))) := (hb2'.block _ (hid_lt k1)).trans k1.out
  have B2 := btr B1 hb2'
  have hst2 := hst1.below hb2'
  have h2 := h1.below hb2'
  clear s0 s1 s2 k1 hb2' B1 h1 hst1
  obtain ⟨s0, s1, s2⟩ : w2.cell? ⟨w.heap.size, 0, none⟩ = some (.int .i64 wd) ∧ w2.cell? ⟨w.heap.size, 1, none⟩ = some (.int .i64 cp) ∧ w2.cell? ⟨w.heap.size, 2, none⟩ = some (.int .i64 jn) := ⟨hst2.c0, hst2.c1, hst2.c2⟩
  have hz2 := hst2.lt
  go_wp2_with fail
  obtain ⟨w3, hw3⟩ : ∃ w3 : World, w3 = (w2.alloc (.cells (madeCells #[.int .u8 0] N) 5)).alloc (.cells #[.int .i64 (a : Int), .int .i64 (b : Int), .slice (some ⟨w2.heap.size, 0, none⟩) N N] 31) := ⟨_, rfl⟩
  rw [← hw3]
  obtain ⟨g, hg⟩ : ∃ g, g = w2.heap.size := ⟨_, rfl⟩
  have hb23 : Below w2.heap.size w2 w3 := by rw [hw3]; exact bal (bal (Below.refl _ _) _) _
  have hR3 : ByRow w3 g N (List.replicate N 0) := by rw [hw3, hg]; exact (ByRow.new w2 N _).below (bal (Below.refl _ _) _)
  have hg3 : w3.heap[g]? = some (.cells (madeCells #[.int .u8 0] N) 5 (0, 0)) := by
    rw [hw3, hg]; exact ((bal (Below.refl _ _) _ : Below (w2.alloc (.cells (madeCells #[.int .u8 0] N) 5)).heap.size (w2.alloc (.cells (madeCells #[.int .u8 0] N) 5)) _).block _ (by simp)).trans (heap_alloc_new w2 _)
  have km3' : w3.heap[g + 1]? = some (.cells #[.int .i64 (a : Int), .int .i64 (b : Int), .slice (some ⟨g, 0, none⟩) N N] 31 (0, 0)) := by
    rw [hw3, hg]; have := heap_alloc_new (w2.alloc (.cells (madeCells #[.int .u8 0] N) 5)) (.cells #[.int .i64 (a : Int), .int .i64 (b : Int), .slice (some ⟨w2.heap.size, 0, none⟩) N N] 31); rw [show (w2.alloc (.cells (madeCells #[.int .u8 0] N) 5)).heap.size = w2.heap.size + 1 by simp] at this; exact this
  have hgw : w.heap.size + 1 < g := by rw [hg]; exact hid_lt k2
  have B3 := btr B2 hb23
  have k3 : Hid (w3.heap[w.heap.size + 1]? = some (.cells #[.int .i64 0, .int .i64 0, .slice none 0 0] 31 (0, 0))) := (hb23.block _ (hid_lt k2)).trans k2.out
  have h3 := h2.below hb23
  rw [← hg]
  clear hw3 hg s0 s1 s2 hz2 hst2 k2 h2 B2 hb23 HMK
  refine (all_any A n c l ⟨wd, cp, jn⟩ L m _ hn3 h3 HL.out HM.out).mono ?_; rintro e w4 ⟨A4, c4, rfl, hs4, hb4⟩
  have hR4 := hR3.below hb4
  have hg4 := (hb4.block _ hR3.lt).trans hg3
  have hap := shape_apart hs4 hg4
  have km4 : Hid (w4.heap[g + 1]? = some (.cells #[.int .i64 (a : Int), .int .i64 (b : Int), .slice (some ⟨g, 0, none⟩) N N] 31 (0, 0))) := (hb4.block _ (Array.getElem?_eq_some_iff.1 km3').1).trans km3'
  have k4 : Hid (w4.heap[w.heap.size + 1]? = some (.cells #[.int .i64 0, .int .i64 0, .slice none 0 0] 31 (0, 0))) := (hb4.block _ (hid_lt k3)).trans k3.out
  have B4 := btr B3 hb4
  obtain ⟨F, hF⟩ : ∃ F, F = covL l ⟨wd, cp, jn⟩ := ⟨_, rfl⟩
  have HF := Lib.hid hF
  have HCF : Hid (∀ x y, (L.any fun s => covS s x y) = F x y) := fun x y => by rw [hF]; exact HCV.out x y
  have HAP := Lib.hid hap
  have HM4 := Lib.hid (show maskTo F a N 0 = List.replicate N 0 from maskTo_zero F a N)
  have mc2 : w4.cell? ⟨g + 1, 2, none⟩ = some (.slice (some ⟨g, 0, none⟩) N N) := blk_cell 2 km4
  clear hR3 hg3 hg4 hap km3' k3 B3 hb4 h3 hF
  go_wp2
  go_loopw [51] (fun s51 wr => ∃ i : Nat, i ≤ N ∧ s51 = .int .i64 (i : Int) ∧ ByRow wr g N (maskTo F a N i) ∧ w4.grownBy wr (some g)) (fun s51 _ => N - (intOf s51).toNat)
  case atStart => exact ⟨0, by omega, rfl, by rw [HM4.out]; exact hR4, grefl _ _⟩
  case round =>
    obtain ⟨wo, rfl⟩ : ∃ wo : World, wo = wr := ⟨_, rfl⟩
    obtain ⟨i, hi, rfl, hR, hG⟩ := hrel
    have kmo : Hid (wo.heap[g + 1]? = some (.cells #[.int .i64 (a : Int), .int .i64 (b : Int), .slice (some ⟨g, 0, none⟩) N N] 31 (0, 0))) := (hG.block _ (hid_lt km4) (by simp)).trans km4.out
    have ko : Hid (wo.heap[w.heap.size + 1]? = some (.cells #[.int .i64 0, .int .i64 0, .slice none 0 0] 31 (0, 0))) := (hG.block _ (hid_lt k4) (by simp; omega)).trans k4.out
    clear mc2 hR4
    by_cases hiN : i < N
    · have hso := sl_kept hs4 hG HAP.out
      have hiab : i < a * b := by rw [HN.out]; exact hiN
      obtain ⟨X, hX⟩ : ∃ X, i % a = X := ⟨_, rfl⟩
      obtain ⟨Y, hY⟩ : ∃ Y, i / a = Y := ⟨_, rfl⟩
      have hX64 : X < 64 := by rw [← hX]; have := Nat.mod_lt i (show 0 < a by omega); omega
      have hY64 : Y < 64 := by rw [← hY]; have := Nat.div_lt_of_lt_mul hiab; omega
      have htm : ((i : Nat) : Int).tmod (a : Int) = (X : Int) := by rw [← hX, Int.tmod_eq_emod_of_nonneg (by omega)]; simp
      have htd : ((i : Nat) : Int).tdiv (a : Int) = (Y : Int) := by rw [← hY, Int.tdiv_eq_ediv_of_nonneg (by omega)]; simp
      have htm2 : ((i : Nat) : Int) % (a : Int) = (X : Int) := by rw [← hX]; simp
      have htd2 : ((i : Nat) : Int) / (a : Int) = (Y : Int) := by rw [← hY]; simp
      have haz : ¬ ((a : Int) = 0) := by omega
      have haz3 : ¬ a = 0 := by omega
      have haz4 : (a == 0) = false := by simp; omega
      have hwX : IntKind.i64.wrap (X : Int) = (X : Int) := IntWalk.i64_in _ (by omega)
      have hwY : IntKind.i64.wrap (Y : Int) = (Y : Int) := IntWalk.i64_in _ (by omega)
      have haz2 : ((a : Int) == 0) = false := by simp; omega
      have hcx : co (16 * (X : Int) + 8) = true := co_iff.2 (by omega)
      have hcy : co (16 * (Y : Int) + 8) = true := co_iff.2 (by omega)
      have hst0 := maskTo_same F a N i hiN
      have hst1 := maskTo_one F a N i hiN
      rw [hX, hY] at hst0 hst1
      have H0 := Lib.hid hst0
      have H1 := Lib.hid hst1
      have HX := Lib.hid hX
      have HY := Lib.hid hY
      clear hst0 hst1 hX hY hiab
      go_wp2
      have hE := fun z : Grown wo => hso.below z.below
      refine wp_region_grown (by kernel_rfl) (by kernel_rfl) ?_
      repeat (go_big_quiet_step (first
        | (go_at_call 19; with_reducible exact Calls.grown (covered_any A4 m c4 L _ _ _ hm6 (hE _) HOK.out hcx hcy))
        | fail))
      refine wpQuiet_nil ?_
      intro _ hw'
      obtain ⟨zq, hw''⟩ := hw'
      subst hw''
      rw [HCF.out]
      obtain ⟨wE, hwE⟩ : ∃ wE : World, wE = zq.world := ⟨_, rfl⟩
      have hbE : Below wo.heap.size wo wE := by rw [hwE]; exact zq.below
      rw [← hwE]
      clear hwE hE
      have hRE := hR.below hbE
      have kmE := (hbE.block _ (hid_lt kmo)).trans kmo.out
      have KME := Lib.hid kmE
      have d2 : wE.cell? ⟨g + 1, 2, none⟩ = some (.slice (some ⟨g, 0, none⟩) N N) := blk_cell 2 KME
      have GE := gbel hG hbE
      have hgl := hRE.lt
      have hil : i < (maskTo F a N i).length := by rw [hRE.len]; exact hiN
      have hcg := hRE.cell i _ (List.getElem?_eq_getElem hil)
      have hfg := hRE.nf i
      clear kmE hR hG kmo ko hbE hso
      cases hr : F (16 * (X : Int) + 8) (16 * (Y : Int) + 8)
      · have h9 := H0.out hr
        have H9 := Lib.hid h9
        clear h9 hr
        go_wp2
        exact ⟨⟨i + 1, by omega, by go_num, by rw [H9.out]; exact hRE, GE⟩, by simp [intOf]; omega⟩
      · have h9 := H1.out hr
        have H9 := Lib.hid h9
        clear h9 hr
        go_wp2
        exact ⟨⟨i + 1, by omega, by go_num, by rw [H9.out]; exact hRE.set hiN 1, gset_same GE i _⟩, by simp [intOf]; omega⟩
    · obtain rfl : i = N := by omega
      have c0 := fun i => blk_cell i ko
      have f0 := fun i => blk_frozen i ko
      have d0 := fun i => blk_cell i kmo
      have HML := Lib.hid (maskTo_all F a b)
      go_wp2
      obtain ⟨w9, hw9⟩ : ∃ w9 : World, w9 = ((wo.setCell ⟨w.heap.size + 1, 0, none⟩ (.int .i64 (a : Int))).setCell ⟨w.heap.size + 1, 1, none⟩ (.int .i64 (b : Int))).setCell ⟨w.heap.size + 1, 2, none⟩ (.slice (some ⟨g, 0, none⟩) i i) := ⟨_, rfl⟩
      have hgo : g < wo.heap.size := hR.lt
      have B9 : Below w.heap.size w w9 := by rw [hw9]; exact bset (bset (bset (B4.grown hG B4.size fun k hk => by cases hk; omega) (by simp) _) (by simp) _) (by simp) _
      have G9 : Off9 wo w9 (w.heap.size + 1) := by rw [hw9]; exact fun k hk => by rw [heap_setCell_other _ _ _ _ (by simp; omega), heap_setCell_other _ _ _ _ (by simp; omega), heap_setCell_other _ _ _ _ (by simp; omega)]
      have r0 : w9.cell? ⟨w.heap.size + 1, 0, none⟩ = some (.int .i64 (a : Int)) := by rw [hw9, World.cell?_setCell_other _ _ _ _ (by simp), World.cell?_setCell_other _ _ _ _ (by simp)]; exact World.cell?_setCell_same _ _ _ (c0 0)
      have r1 : w9.cell? ⟨w.heap.size + 1, 1, none⟩ = some (.int .i64 (b : Int)) := by rw [hw9, World.cell?_setCell_other _ _ _ _ (by simp)]; exact World.cell?_setCell_same _ _ _ ((World.cell?_setCell_other _ _ _ _ (by simp)).trans (c0 1))
      have r2 : w9.cell? ⟨w.heap.size + 1, 2, none⟩ = some (.slice (some ⟨g, 0, none⟩) i i) := by rw [hw9]; exact World.cell?_setCell_same _ _ _ ((World.cell?_setCell_other _ _ _ _ (by simp)).trans ((World.cell?_setCell_other _ _ _ _ (by simp)).trans (c0 2)))
      rw [← hw9]
      refine bodyPost_ret (v := .tuple #[maskV a b (.slice (some ⟨g, 0, none⟩) i i), .int .i64 0]) (by simp [results, Try.results7, go_sem, r0, r1, r2, maskV]) rfl ?_
      have hml := HML.out
      rw [HN.out] at hml
      rw [HN.out, ← HF.out, ← hml]
      exact ⟨g, rfl, hR.off G9 (by omega) (by rw [hw9]; simp [World.setCell]), B9⟩
set_option maxRecDepth 100000 in
set_option maxHeartbeats 1000000 in
theorem Mask_bad (A : Option Addr) (n c : Nat) (l : List Sg) (wd cp jn a b : Int) (w : World) (hn : n ≤ 1000000) (h : Sl w 5 A n (sgs l))
    (hbad : plainB l = false ∨ mayS ⟨wd, cp, jn⟩ = false ∨ a < 1 ∨ 64 < a ∨ b < 1 ∨ 64 < b) :
    Calls Try.prog 7 #[.slice A n c, .agg #[.int .i64 wd, .int .i64 cp, .int .i64 jn], .int .i64 a, .int .i64 b] w
      fun e w' => e = .returned (.tuple #[maskV 0 0 (.slice none 0 0), .int .i64 1]) ∧ Below w.heap.size w w' := by
  obtain ⟨w0, hw0⟩ : ∃ w0 : World, w0 = (w.alloc (.cells #[.int .i64 wd, .int .i64 cp, .int .i64 jn] 27)).alloc (.cells #[.int .i64 0, .int .i64 0, .slice none 0 0] 31) := ⟨_, rfl⟩
  have k0' : w0.heap[w.heap.size + 1]? = some (.cells #[.int .i64 0, .int .i64 0, .slice none 0 0] 31 (0, 0)) := by
    rw [hw0]; have := heap_alloc_new (w.alloc (.cells #[.int .i64 wd, .int .i64 cp, .int .i64 jn] 27)) (.cells #[.int .i64 0, .int .i64 0, .slice none 0 0] 31); rw [show (w.alloc (.cells #[.int .i64 wd, .int .i64 cp, .int .i64 jn] 27)).heap.size = w.heap.size + 1 by simp] at this; exact this
  have k0 := Lib.hid k0'
  clear k0'
  have hst : StIn w0 w.heap.size wd cp jn := by rw [hw0]; exact (StIn.new _ _ _).below (bal (Below.refl _ _) _)
  have B0 : Below w.heap.size w w0 := by rw [hw0]; exact bal (bal (Below.refl _ _) _) _
  have h0 := h.below B0
  clear h
  obtain ⟨p, hp⟩ : ∃ p, plainB l = p := ⟨_, rfl⟩
  obtain ⟨q, hq⟩ : ∃ q, mayS ⟨wd, cp, jn⟩ = q := ⟨_, rfl⟩
  rw [hp, hq] at hbad
  have HP := Lib.hid hp
  have HQ := Lib.hid hq
  clear hp hq
  cases p
  · clear hbad
    go_enter Try.func7, Try.ntmps7
    go_wp2_with fail
    rw [← hw0]
    clear hw0
    refine (stroke_plain_any A n c l _ hn h0).mono ?_; rintro e w1 ⟨rfl, hb1⟩
    rw [HP.out]
    have k9 : Hid (w1.heap[w.heap.size + 1]? = some (.cells #[.int .i64 0, .int .i64 0, .slice none 0 0] 31 (0, 0))) := (hb1.block _ (hid_lt k0)).trans k0.out
    have BB := btr B0 hb1
    clear k0 hb1 B0 h0
    have c0 := fun i => blk_cell i k9
    have f0 := fun i => blk_frozen i k9
    go_wp2
    obtain ⟨w9, hw9⟩ : ∃ w9 : World, w9 = ((w1.setCell ⟨w.heap.size + 1, 0, none⟩ (.int .i64 0)).setCell ⟨w.heap.size + 1, 1, none⟩ (.int .i64 0)).setCell ⟨w.heap.size + 1, 2, none⟩ (.slice none 0 0) := ⟨_, rfl⟩
    have B9 : Below w.heap.size w w9 := by rw [hw9]; exact bset (bset (bset BB (by simp) _) (by simp) _) (by simp) _
    have r0 : w9.cell? ⟨w.heap.size + 1, 0, none⟩ = some (.int .i64 0) := by rw [hw9, World.cell?_setCell_other _ _ _ _ (by simp), World.cell?_setCell_other _ _ _ _ (by simp)]; exact World.cell?_setCell_same _ _ _ (c0 0)
    have r1 : w9.cell? ⟨w.heap.size + 1, 1, none⟩ = some (.int .i64 0) := by rw [hw9, World.cell?_setCell_other _ _ _ _ (by simp)]; exact World.cell?_setCell_same _ _ _ ((World.cell?_setCell_other _ _ _ _ (by simp)).trans (c0 1))
    have r2 : w9.cell? ⟨w.heap.size + 1, 2, none⟩ = some (.slice none 0 0) := by rw [hw9]; exact World.cell?_setCell_same _ _ _ ((World.cell?_setCell_other _ _ _ _ (by simp)).trans ((World.cell?_setCell_other _ _ _ _ (by simp)).trans (c0 2)))
    rw [← hw9]
    refine bodyPost_ret (v := .tuple #[maskV 0 0 (.slice none 0 0), .int .i64 1]) (by simp [results, Try.results7, go_sem, r0, r1, r2, maskV]) rfl ?_
    exact ⟨rfl, B9⟩
  · go_enter Try.func7, Try.ntmps7
    go_wp2_with fail
    rw [← hw0]
    clear hw0
    refine (stroke_plain_any A n c l _ hn h0).mono ?_; rintro e w1 ⟨rfl, hb1⟩
    rw [HP.out]
    have k1 : Hid (w1.heap[w.heap.size + 1]? = some (.cells #[.int .i64 0, .int .i64 0, .slice none 0 0] 31 (0, 0))) := (hb1.block _ (hid_lt k0)).trans k0.out
    have B1 := btr B0 hb1
    have hst1 := hst.below hb1
    obtain ⟨s0, s1, s2⟩ : w1.cell? ⟨w.heap.size, 0, none⟩ = some (.int .i64 wd) ∧ w1.cell? ⟨w.heap.size, 1, none⟩ = some (.int .i64 cp) ∧ w1.cell? ⟨w.heap.size, 2, none⟩ = some (.int .i64 jn) := ⟨hst1.c0, hst1.c1, hst1.c2⟩
    clear k0 hb1 B0 h0 hst
    go_wp2_with fail
    refine (stroke_May_any ⟨wd, cp, jn⟩ _).mono ?_; rintro e w2 ⟨rfl, hb2⟩
    rw [HQ.out]
    have k9 : Hid (w2.heap[w.heap.size + 1]? = some (.cells #[.int .i64 0, .int .i64 0, .slice none 0 0] 31 (0, 0))) := (hb2.block _ (hid_lt k1)).trans k1.out
    have BB := btr B1 hb2
    clear s0 s1 s2 k1 hb2 B1 hst1
    cases q
    · clear hbad
      have c0 := fun i => blk_cell i k9
      have f0 := fun i => blk_frozen i k9
      go_wp2
      obtain ⟨w9, hw9⟩ : ∃ w9 : World, w9 = ((w2.setCell ⟨w.heap.size + 1, 0, none⟩ (.int .i64 0)).setCell ⟨w.heap.size + 1, 1, none⟩ (.int .i64 0)).setCell ⟨w.heap.size + 1, 2, none⟩ (.slice none 0 0) := ⟨_, rfl⟩
      have B9 : Below w.heap.size w w9 := by rw [hw9]; exact bset (bset (bset BB (by simp) _) (by simp) _) (by simp) _
      have r0 : w9.cell? ⟨w.heap.size + 1, 0, none⟩ = some (.int .i64 0) := by rw [hw9, World.cell?_setCell_other _ _ _ _ (by simp), World.cell?_setCell_other _ _ _ _ (by simp)]; exact World.cell?_setCell_same _ _ _ (c0 0)
      have r1 : w9.cell? ⟨w.heap.size + 1, 1, none⟩ = some (.int .i64 0) := by rw [hw9, World.cell?_setCell_other _ _ _ _ (by simp)]; exact World.cell?_setCell_same _ _ _ ((World.cell?_setCell_other _ _ _ _ (by simp)).trans (c0 1))
      have r2 : w9.cell? ⟨w.heap.size + 1, 2, none⟩ = some (.slice none 0 0) := by rw [hw9]; exact World.cell?_setCell_same _ _ _ ((World.cell?_setCell_other _ _ _ _ (by simp)).trans ((World.cell?_setCell_other _ _ _ _ (by simp)).trans (c0 2)))
      rw [← hw9]
      refine bodyPost_ret (v := .tuple #[maskV 0 0 (.slice none 0 0), .int .i64 1]) (by simp [results, Try.results7, go_sem, r0, r1, r2, maskV]) rfl ?_
      exact ⟨rfl, B9⟩
    · have hb' : a < 1 ∨ (¬ a < 1 ∧ 64 < a) ∨ (¬ a < 1 ∧ ¬ 64 < a ∧ b < 1) ∨ (¬ a < 1 ∧ ¬ 64 < a ∧ ¬ b < 1 ∧ 64 < b) := by simp at hbad; omega
      clear hbad
      rcases hb' with q1 | ⟨q1, q2⟩ | ⟨q1, q2, q3⟩ | ⟨q1, q2, q3, q4⟩
      · skip
        have c0 := fun i => blk_cell i k9
        have f0 := fun i => blk_frozen i k9
        go_wp2
        obtain ⟨w9, hw9⟩ : ∃ w9 : World, w9 = ((w2.setCell ⟨w.heap.size + 1, 0, none⟩ (.int .i64 0)).setCell ⟨w.heap.size + 1, 1, none⟩ (.int .i64 0)).setCell ⟨w.heap.size + 1, 2, none⟩ (.slice none 0 0) := ⟨_, rfl⟩
        have B9 : Below w.heap.size w w9 := by rw [hw9]; exact bset (bset (bset BB (by simp) _) (by simp) _) (by simp) _
        have r0 : w9.cell? ⟨w.heap.size + 1, 0, none⟩ = some (.int .i64 0) := by rw [hw9, World.cell?_setCell_other _ _ _ _ (by simp), World.cell?_setCell_other _ _ _ _ (by simp)]; exact World.cell?_setCell_same _ _ _ (c0 0)
        have r1 : w9.cell? ⟨w.heap.size + 1, 1, none⟩ = some (.int .i64 0) := by rw [hw9, World.cell?_setCell_other _ _ _ _ (by simp)]; exact World.cell?_setCell_same _ _ _ ((World.cell?_setCell_other _ _ _ _ (by simp)).trans (c0 1))
        have r2 : w9.cell? ⟨w.heap.size + 1, 2, none⟩ = some (.slice none 0 0) := by rw [hw9]; exact World.cell?_setCell_same _ _ _ ((World.cell?_setCell_other _ _ _ _ (by simp)).trans ((World.cell?_setCell_other _ _ _ _ (by simp)).trans (c0 2)))
        rw [← hw9]
        refine bodyPost_ret (v := .tuple #[maskV 0 0 (.slice none 0 0), .int .i64 1]) (by simp [results, Try.results7, go_sem, r0, r1, r2, maskV]) rfl ?_
        exact ⟨rfl, B9⟩
      · skip
        have c0 := fun i => blk_cell i k9
        have f0 := fun i => blk_frozen i k9
        go_wp2
        obtain ⟨w9, hw9⟩ : ∃ w9 : World, w9 = ((w2.setCell ⟨w.heap.size + 1, 0, none⟩ (.int .i64 0)).setCell ⟨w.heap.size + 1, 1, none⟩ (.int .i64 0)).setCell ⟨w.heap.size + 1, 2, none⟩ (.slice none 0 0) := ⟨_, rfl⟩
        have B9 : Below w.heap.size w w9 := by rw [hw9]; exact bset (bset (bset BB (by simp) _) (by simp) _) (by simp) _
        have r0 : w9.cell? ⟨w.heap.size + 1, 0, none⟩ = some (.int .i64 0) := by rw [hw9, World.cell?_setCell_other _ _ _ _ (by simp), World.cell?_setCell_other _ _ _ _ (by simp)]; exact World.cell?_setCell_same _ _ _ (c0 0)
        have r1 : w9.cell? ⟨w.heap.size + 1, 1, none⟩ = some (.int .i64 0) := by rw [hw9, World.cell?_setCell_other _ _ _ _ (by simp)]; exact World.cell?_setCell_same _ _ _ ((World.cell?_setCell_other _ _ _ _ (by simp)).trans (c0 1))
        have r2 : w9.cell? ⟨w.heap.size + 1, 2, none⟩ = some (.slice none 0 0) := by rw [hw9]; exact World.cell?_setCell_same _ _ _ ((World.cell?_setCell_other _ _ _ _ (by simp)).trans ((World.cell?_setCell_other _ _ _ _ (by simp)).trans (c0 2)))
        rw [← hw9]
        refine bodyPost_ret (v := .tuple #[maskV 0 0 (.slice none 0 0), .int .i64 1]) (by simp [results, Try.results7, go_sem, r0, r1, r2, maskV]) rfl ?_
        exact ⟨rfl, B9⟩
      · skip
        have c0 := fun i => blk_cell i k9
        have f0 := fun i => blk_frozen i k9
        go_wp2
        obtain ⟨w9, hw9⟩ : ∃ w9 : World, w9 = ((w2.setCell ⟨w.heap.size + 1, 0, none⟩ (.int .i64 0)).setCell ⟨w.heap.size + 1, 1, none⟩ (.int .i64 0)).setCell ⟨w.heap.size + 1, 2, none⟩ (.slice none 0 0) := ⟨_, rfl⟩
        have B9 : Below w.heap.size w w9 := by rw [hw9]; exact bset (bset (bset BB (by simp) _) (by simp) _) (by simp) _
        have r0 : w9.cell? ⟨w.heap.size + 1, 0, none⟩ = some (.int .i64 0) := by rw [hw9, World.cell?_setCell_other _ _ _ _ (by simp), World.cell?_setCell_other _ _ _ _ (by simp)]; exact World.cell?_setCell_same _ _ _ (c0 0)
        have r1 : w9.cell? ⟨w.heap.size + 1, 1, none⟩ = some (.int .i64 0) := by rw [hw9, World.cell?_setCell_other _ _ _ _ (by simp)]; exact World.cell?_setCell_same _ _ _ ((World.cell?_setCell_other _ _ _ _ (by simp)).trans (c0 1))
        have r2 : w9.cell? ⟨w.heap.size + 1, 2, none⟩ = some (.slice none 0 0) := by rw [hw9]; exact World.cell?_setCell_same _ _ _ ((World.cell?_setCell_other _ _ _ _ (by simp)).trans ((World.cell?_setCell_other _ _ _ _ (by simp)).trans (c0 2)))
        rw [← hw9]
        refine bodyPost_ret (v := .tuple #[maskV 0 0 (.slice none 0 0), .int .i64 1]) (by simp [results, Try.results7, go_sem, r0, r1, r2, maskV]) rfl ?_
        exact ⟨rfl, B9⟩
      · skip
        have c0 := fun i => blk_cell i k9
        have f0 := fun i => blk_frozen i k9
        go_wp2
        obtain ⟨w9, hw9⟩ : ∃ w9 : World, w9 = ((w2.setCell ⟨w.heap.size + 1, 0, none⟩ (.int .i64 0)).setCell ⟨w.heap.size + 1, 1, none⟩ (.int .i64 0)).setCell ⟨w.heap.size + 1, 2, none⟩ (.slice none 0 0) := ⟨_, rfl⟩
        have B9 : Below w.heap.size w w9 := by rw [hw9]; exact bset (bset (bset BB (by simp) _) (by simp) _) (by simp) _
        have r0 : w9.cell? ⟨w.heap.size + 1, 0, none⟩ = some (.int .i64 0) := by rw [hw9, World.cell?_setCell_other _ _ _ _ (by simp), World.cell?_setCell_other _ _ _ _ (by simp)]; exact World.cell?_setCell_same _ _ _ (c0 0)
        have r1 : w9.cell? ⟨w.heap.size + 1, 1, none⟩ = some (.int .i64 0) := by rw [hw9, World.cell?_setCell_other _ _ _ _ (by simp)]; exact World.cell?_setCell_same _ _ _ ((World.cell?_setCell_other _ _ _ _ (by simp)).trans (c0 1))
        have r2 : w9.cell? ⟨w.heap.size + 1, 2, none⟩ = some (.slice none 0 0) := by rw [hw9]; exact World.cell?_setCell_same _ _ _ ((World.cell?_setCell_other _ _ _ _ (by simp)).trans ((World.cell?_setCell_other _ _ _ _ (by simp)).trans (c0 2)))
        rw [← hw9]
        refine bodyPost_ret (v := .tuple #[maskV 0 0 (.slice none 0 0), .int .i64 1]) (by simp [results, Try.results7, go_sem, r0, r1, r2, maskV]) rfl ?_
        exact ⟨rfl, B9⟩
end Go.Proofs.Ytbpgehaflbacmaa
