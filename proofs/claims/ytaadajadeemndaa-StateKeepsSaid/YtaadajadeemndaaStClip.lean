/- state.Clip. -/
import Derived.Test.YtaadajadeemndaaSt9
namespace Go.Proofs.Ytaadajadeemndaa
open Go.RowKit Go.BigFrame

theorem stC_clip (x : St) (P C D Q : Value) (l : List Cl) : ((stC x P C D).set 7 Q).set 6 (.slice none 0 0) = stC { x with p := [], cl := l } (.slice none 0 0) Q D := rfl
def clipS (x : St) (rule : Int) : St × Int :=
  if (mayS x && ruleB rule) = false then (zeroS, 1) else if 10 ≤ x.cl.length then (zeroS, 5) else ({ x with p := [], cl := x.cl ++ [⟨x.p, rule⟩] }, 0)
theorem clT : SlT Try.prog 27 57 2 32 := slT_of Try.underlying27 (by kernel_rfl) (by omega) (by omega)
theorem clcs_app (a b : List (Cl × Value)) : clcs (a ++ b) = clcs a ++ clcs b := by simp [clcs]
/-- A clip more, its path in memory of one's own. -/
theorem ClOwn.push {w w' : World} {B : Nat} {A A' : Option Addr} {n c c' : Nat} {l : List Cl} {k : Cl} {V : Value} {ps : List (Cl × Value)} (hm : ps.map Prod.fst = l) (hp : ∀ p ∈ ps, w.ownsRow B 42 5 p.2 p.1.p.length (sgs p.1.p)) (hV : w.ownsRow B 42 5 V k.p.length (sgs k.p))
    (ho : w.ownsRow B 57 2 (.slice A n c) n (clcs ps)) (hn : w'.ownsRow B 57 2 (.slice A' (n + 1) c') (n + 1) (clcs ps ++ clc (k, V))) (hg : w.grownBy w' (Value.ownBlock (.slice A n c))) (hl : l.length = n) : ClOwn w' B (.slice A' (n + 1) c') (l ++ [k]) := by
  have hne : ∀ {v : Value} {m : Nat} {xs : List Value}, w.ownsRow B 42 5 v m xs → w'.ownsRow B 42 5 v m xs := fun h => h.kept hg (own_ne h ho (by decide))
  refine ⟨ps ++ [(k, V)], by simp [hm], ?_, fun p hpp => ?_⟩
  · rw [List.length_append, hl, clcs_app]
    show w'.ownsRow B 57 2 (.slice A' (n + 1) c') (n + 1) (clcs ps ++ clcs [(k, V)])
    have : clcs [(k, V)] = clc (k, V) := by simp [clcs]
    rw [this]; exact hn
  · rcases List.mem_append.1 hpp with h | h
    · exact hne (hp p h)
    · rw [List.mem_singleton] at h; subst h; exact hne hV
theorem BC.grown {w w' : World} {g : Nat} {C : List Value} {blk : Option Nat} (h : BC w g C) (hg : w.grownBy w' blk) (hne : blk ≠ some g) : BC w' g C := by
  have hb := hg.block g h.lt (fun e => hne e.symm)
  exact ⟨Nat.lt_of_lt_of_le h.lt hg.size, fun i => (World.frozen?_of_block (a := ⟨g, i, none⟩) hb).trans (h.nf i), fun j v hv => (World.cell?_of_block (a := ⟨g, j, none⟩) hb).trans (h.c j v hv)⟩
set_option maxRecDepth 100000 in
set_option maxHeartbeats 4000000 in
theorem stClip_any (x : St) (P C D : Value) (rule : Int) (Y : St × Int) (w : World) (h : StAt w x P C D) (hY : clipS x rule = Y) : Calls Try.prog 17 #[.agg (stC x P C D).toArray, .int .i64 rule] w
    fun r w' => ∃ P' C' D', r = .returned (.tuple #[.agg (stC Y.1 P' C' D').toArray, .int .i64 Y.2]) ∧ StOwn w' w.heap.size Y.1 P' C' D' ∧ Below w.heap.size w w' := by
  obtain ⟨w0, hw0⟩ : ∃ w0 : World, w0 = (w.alloc (.cells (stC x P C D).toArray 34)).alloc (.cells (stC zeroS (.slice none 0 0) (.slice none 0 0) (.slice none 0 0)).toArray 34) := ⟨_, rfl⟩
  have hB0 : Below w.heap.size w w0 := by rw [hw0]; exact bal (bal (Below.refl _ _) _) _
  have hA : BC w0 w.heap.size (stC x P C D) := by rw [hw0]; exact (BC.new (stC x P C D) 34 rfl).below (bal (Below.refl _ _) _)
  have hR : BC w0 (w.heap.size + 1) (stC zeroS (.slice none 0 0) (.slice none 0 0) (.slice none 0 0)) := by rw [hw0]; exact BC.new (w := w.alloc (.cells (stC x P C D).toArray 34)) _ 34 (by simp)
  have hgA := hA.lt
  have hgR := hR.lt
  have h0 := h.below hB0
  rw [zero_lit] at hw0
  obtain ⟨Ac, cc, rfl, hc, hcc, hcm⟩ := h0.c.sl
  obtain ⟨nc, hnc⟩ : ∃ n, n = x.cl.length := ⟨_, rfl⟩
  rw [← hnc] at hw0 hA hcc h h0 ⊢
  have HNC := Lib.hid hnc
  have HY := Lib.hid hY
  have HM := Lib.hid fun W (hb : Below w0.heap.size w0 W) => stMay_any x P (.slice Ac nc cc) D W (h0.below hb)
  have HCo := Lib.hid fun (hf : stFew x) W (hb : Below w0.heap.size w0 W) => copied_any x P (.slice Ac nc cc) D W (h0.below hb) hf
  have HA := Lib.hid hA
  have HR := Lib.hid hR
  clear hY h0 h hA hR hnc hc
  go_enter Try.func17, Try.ntmps17
  go_upto_region 1 with (fail)
  rw [← hw0]
  clear hw0
  go_wp2_with (first
    | (refine wpList_load_rec rfl _ _ rfl w.heap.size rfl _ 24 stT HA.out rfl ?_)
    | fail)
  refine (HM.out _ (Below.refl _ _)).mono ?_; rintro e w1 ⟨rfl, hb1⟩
  have G1 := hb1
  have B1 := btr hB0 G1
  clear hb1
  cases hm : mayS x
  · have HY2 : Hid (Y = (zeroS, 1)) := Lib.hid (by rw [← HY.out]; unfold clipS; rw [hm]; simp)
    have hF := (HR.out.below G1).putAll (stC zeroS (.slice none 0 0) (.slice none 0 0) (.slice none 0 0)) rfl
    have hFB := below_setCells (Nat.le_succ w.heap.size) (stC zeroS (.slice none 0 0) (.slice none 0 0) (.slice none 0 0)) 0 _ (B1)
    go_wp2_with (first
      | (refine wpList_load_rec rfl _ _ rfl (w.heap.size + 1) rfl _ 24 stT (HR.out.below G1) rfl ?_)
      | (refine wpList_store_rec rfl _ _ _ rfl (w.heap.size + 1) (stC zeroS (.slice none 0 0) (.slice none 0 0) (.slice none 0 0)) _ rfl rfl 24 stT (HR.out.below G1) rfl rfl zero_one ?_)
      | fail)
    refine bodyPost_ret (result_rec rfl rfl rfl stT hF rfl) rfl ?_
    rw [HY2.out]
    exact ⟨_, _, _, rfl, zero_own _ _, hFB⟩
  · have HFEW := Lib.hid (mayS_few hm)
    go_wp2_with fail
    refine (stIsRule_any rule _).mono ?_; rintro e w' ⟨rfl, rfl⟩
    cases hru : ruleB rule
    · have HY2 : Hid (Y = (zeroS, 1)) := Lib.hid (by rw [← HY.out]; unfold clipS; rw [hm, hru]; simp)
      have hF := (HR.out.below G1).putAll (stC zeroS (.slice none 0 0) (.slice none 0 0) (.slice none 0 0)) rfl
      have hFB := below_setCells (Nat.le_succ w.heap.size) (stC zeroS (.slice none 0 0) (.slice none 0 0) (.slice none 0 0)) 0 _ (B1)
      go_wp2_with (first
        | (refine wpList_load_rec rfl _ _ rfl (w.heap.size + 1) rfl _ 24 stT (HR.out.below G1) rfl ?_)
        | (refine wpList_store_rec rfl _ _ _ rfl (w.heap.size + 1) (stC zeroS (.slice none 0 0) (.slice none 0 0) (.slice none 0 0)) _ rfl rfl 24 stT (HR.out.below G1) rfl rfl zero_one ?_)
        | fail)
      refine bodyPost_ret (result_rec rfl rfl rfl stT hF rfl) rfl ?_
      rw [HY2.out]
      exact ⟨_, _, _, rfl, zero_own _ _, hFB⟩
    · have A1 := HA.out.below G1
      have a7 := A1.c 7 _ rfl
      by_cases h10 : 10 ≤ nc
      · have HY2 : Hid (Y = (zeroS, 5)) := Lib.hid (by rw [← HY.out]; unfold clipS; rw [hm, hru, ← HNC.out]; simp [h10])
        clear HY
        have hF := (HR.out.below G1).putAll (stC zeroS (.slice none 0 0) (.slice none 0 0) (.slice none 0 0)) rfl
        have hFB := below_setCells (Nat.le_succ w.heap.size) (stC zeroS (.slice none 0 0) (.slice none 0 0) (.slice none 0 0)) 0 _ (B1)
        go_wp2_with (first
          | (refine wpList_load_rec rfl _ _ rfl (w.heap.size + 1) rfl _ 24 stT (HR.out.below G1) rfl ?_)
          | (refine wpList_store_rec rfl _ _ _ rfl (w.heap.size + 1) (stC zeroS (.slice none 0 0) (.slice none 0 0) (.slice none 0 0)) _ rfl rfl 24 stT (HR.out.below G1) rfl rfl zero_one ?_)
          | fail)
        refine bodyPost_ret (result_rec rfl rfl rfl stT hF rfl) rfl ?_
        rw [HY2.out]
        exact ⟨_, _, _, rfl, zero_own _ _, hFB⟩
      · have HY2 : Hid (Y = ({ x with p := [], cl := x.cl ++ [⟨x.p, rule⟩] }, 0)) := Lib.hid (by rw [← HY.out]; unfold clipS; rw [hm, hru, ← HNC.out]; simp [h10])
        have HC2 := Lib.hid (HCo.out HFEW.out)
        clear HY HCo hm hru
        go_wp2_with (first
          | (refine wpList_load_rec rfl _ _ rfl w.heap.size rfl _ 24 stT A1 rfl ?_)
          | fail)
        refine (HC2.out _ G1).mono ?_; rintro e w2 ⟨P2, C2, D2, rfl, ho2, hb2⟩
        have G2 := btr G1 hb2
        have B2 := btr B1 hb2
        have R2 := HR.out.below G2
        have hone2 := ho2.at.one
        have R3 := R2.putAll (stC x P2 C2 D2) rfl
        have B3 := below_setCells (Nat.le_succ w.heap.size) (stC x P2 C2 D2) 0 _ B2
        have ho3 := (ho2.mono G1.size).setCells hgR 0 (stC x P2 C2 D2)
        obtain ⟨w3, hw3⟩ : ∃ w3, w3 = w2.setCells (w.heap.size + 1) 0 (stC x P2 C2 D2) := ⟨_, rfl⟩
        rw [← hw3] at R3 B3 ho3
        have HW3 := Lib.hid hw3
        have hsz3 : w0.heap.size ≤ w3.heap.size := by rw [hw3, setCells_size]; exact G2.size
        clear hw3 ho2 hb2 a7
        obtain ⟨ps, hps, hoc, hpo⟩ := ho3.c
        rw [← HNC.out] at hoc
        obtain ⟨A4, c4, rfl⟩ := own_form hoc
        have hoP := ho3.p
        obtain ⟨Ap, cp, rfl⟩ := own_form hoP
        obtain ⟨np, hnp⟩ : ∃ n, n = x.p.length := ⟨_, rfl⟩
        rw [← hnp] at hoP R3 hone2 HW3 ho3 ⊢
        have HNP := Lib.hid hnp
        have hD2 : D2.oneCell' = true := by obtain ⟨_, _, e⟩ := own_form ho3.d; rw [e]; rfl
        have r6 := R3.c 6 _ rfl
        have r7 := R3.c 7 _ rfl
        have b4 : Below w3.heap.size w3 (w3.alloc (.cells (clc (⟨x.p, rule⟩, .slice Ap np cp)).toArray 57)) := bal (Below.refl _ _) _
        have HOC := Lib.hid (own_below hoc b4)
        have HPO := Lib.hid hpo
        have HO3 := Lib.hid ho3
        have HOP := Lib.hid hoP
        have HPS := Lib.hid hps
        clear hoc hpo ho3 hoP hps hnp
        go_wp2_with (first
          | (refine wpList_store_rec rfl _ _ _ rfl (w.heap.size + 1) (stC x (.slice Ap np cp) (.slice A4 nc c4) D2) _ rfl rfl 24 stT R2 rfl rfl hone2 ?_; rw [← HW3.out])
          | (at_builtin; refine wpList_app rfl _ _ 27 rfl w0.heap.size clT rfl HOC.out (clc (⟨x.p, rule⟩, .slice Ap np cp)) rfl (sl_newN _ rfl rfl) (oneCell_clc _ rfl) (by omega) (by simp; omega) ?_; intro A7 c7 w7 hown7 hg7 hat7; have R7 := (R3.below b4).grown hg7 (fun e => by have := (HOC.out.lt _ e).1; omega); have f6 := R7.nf 6; have f7 := R7.nf 7; have k6 := R7.c 6 _ rfl; have k7 := R7.c 7 _ rfl; have R8 := (R7.set 7 (.slice A7 (nc + 1) c7) (by show 7 < 24; omega)).set 6 (.slice none 0 0) (by show 6 < 24; omega); rw [stC_clip _ _ _ _ _ (x.cl ++ [⟨x.p, rule⟩])] at R8)
          | (refine wpList_load_rec rfl _ _ rfl (w.heap.size + 1) rfl _ 24 stT R8 rfl ?_)
          | (refine wpList_store_rec rfl _ _ _ rfl (w.heap.size + 1) (stC { x with p := [], cl := x.cl ++ [⟨x.p, rule⟩] } (.slice none 0 0) (.slice A7 (nc + 1) c7) D2) _ rfl rfl 24 stT R8 rfl rfl (stC_one rfl rfl hD2) ?_)
          | fail)
        have hF := R8.putAll (stC { x with p := [], cl := x.cl ++ [⟨x.p, rule⟩] } (.slice none 0 0) (.slice A7 (nc + 1) c7) D2) rfl
        refine bodyPost_ret (result_rec rfl rfl rfl stT hF rfl) rfl ?_
        rw [HY2.out]
        have B7 := grown_below (bal B3 _) hg7 (own_mono HOC.out (Nat.le_of_lt hgA))
        have B8 := bset (bset B7 (p := ⟨w.heap.size + 1, 7, none⟩) (Nat.le_succ _) (.slice A7 (nc + 1) c7)) (p := ⟨w.heap.size + 1, 6, none⟩) (Nat.le_succ _) (.slice none 0 0)
        have hOP := own_below HOP.out b4
        have hOP2 : (w3.alloc (.cells (clc (⟨x.p, rule⟩, .slice Ap np cp)).toArray 57)).ownsRow w0.heap.size 42 5 (.slice Ap np cp) (Cl.mk x.p rule).p.length (sgs (Cl.mk x.p rule).p) := by
          show World.ownsRow _ _ _ _ _ x.p.length _
          rw [← HNP.out]; exact hOP
        have ho7 : StOwn w7 w0.heap.size { x with p := [], cl := x.cl ++ [⟨x.p, rule⟩] } (.slice none 0 0) (.slice A7 (nc + 1) c7) D2 := by
          refine ⟨own_nil, ?_, (own_below HO3.out.d b4).kept hg7 (own_ne (own_below HO3.out.d b4) HOC.out (by decide))⟩
          exact ClOwn.push HPS.out (fun p hp => own_below (HPO.out p hp) b4) hOP2 HOC.out hown7 hg7 HNC.out.symm
        exact ⟨_, _, _, rfl, (((ho7.setCell hgR _ _).setCell hgR _ _).setCells hgR _ _).mono (Nat.le_of_lt hgA), below_setCells (Nat.le_succ w.heap.size) _ 0 _ B8⟩
end Go.Proofs.Ytaadajadeemndaa
