/- state.copied: a state with lists of its own. -/
import Derived.Test.YtaadajadeemndaaSt4
import Derived.Test.YtaadajadeemndaaAllP
namespace Go.Proofs.Ytaadajadeemndaa
open Go.RowKit Go.BigFrame

theorem stT : RecT Try.prog 34 24 := ⟨_, Try.underlying34, rfl, by kernel_rfl⟩
theorem matT : RecT Try.prog 25 6 := ⟨_, Try.underlying25, rfl, by kernel_rfl⟩
def obZero : Ob := ⟨0, false, 0, 0, 0, { data := #[] }⟩
/-- The zero state. -/
def zeroS : St := ⟨zeroM, [], [], 0, 0, 0, 0, 0, 0, 0, [], 0, obZero, 0⟩
/-- A state whose lists are in memory of one's own. -/
structure StOwn (w : World) (B : Nat) (x : St) (P C D : Value) : Prop where
  p : w.ownsRow B 42 5 P x.p.length (sgs x.p)
  c : ClOwn w B C x.cl
  d : w.ownsRow B 3 1 D x.da.length (ints x.da)
theorem StOwn.at {w : World} {B : Nat} {x : St} {P C D : Value} (h : StOwn w B x P C D) : StAt w x P C D := ⟨own_pathV h.p, h.c.v, own_intsV h.d⟩
theorem StOwn.below {w w' : World} {B : Nat} {x : St} {P C D : Value} (h : StOwn w B x P C D) (hb : Below w.heap.size w w') : StOwn w' B x P C D := ⟨own_below h.p hb, h.c.below hb, own_below h.d hb⟩
theorem StOwn.mono {w : World} {B B' : Nat} {x : St} {P C D : Value} (h : StOwn w B x P C D) (hb : B' ≤ B) : StOwn w B' x P C D := ⟨own_mono h.p hb, h.c.mono hb, own_mono h.d hb⟩
theorem ClOwn.setCells {B g : Nat} {v : Value} {l : List Cl} (hg : g < B) : ∀ (vs : List Value) (o : Nat) (w : World), ClOwn w B v l → ClOwn (w.setCells g o vs) B v l
  | [], _, _, h => h
  | u :: r, o, _, h => ClOwn.setCells hg r (o + 1) _ (h.set hg o u)
theorem StOwn.setCells {w : World} {B g : Nat} {x : St} {P C D : Value} (h : StOwn w B x P C D) (hg : g < B) (o : Nat) (vs : List Value) : StOwn (w.setCells g o vs) B x P C D :=
  ⟨own_setCells hg _ _ _ h.p, ClOwn.setCells hg _ _ _ h.c, own_setCells hg _ _ _ h.d⟩
theorem StOwn.setCell {w : World} {B g : Nat} {x : St} {P C D : Value} (h : StOwn w B x P C D) (hg : g < B) (o : Nat) (u : Value) : StOwn (w.setCell ⟨g, o, none⟩ u) B x P C D :=
  ⟨own_setCell h.p hg _ _, h.c.set hg _ _, own_setCell h.d hg _ _⟩
/-- Not too long. -/
def stFew (x : St) : Prop := x.p.length ≤ 1000 ∧ x.cl.length ≤ 1000 ∧ (∀ c ∈ x.cl, c.p.length ≤ 1000) ∧ x.da.length ≤ 1000
theorem mayS_few {x : St} (h : mayS x = true) : stFew x := by
  simp only [mayS, Bool.and_eq_true, clsB, dashB, decide_eq_true_eq, List.all_eq_true] at h
  obtain ⟨⟨⟨⟨⟨_, h1⟩, h2, h3⟩, ⟨h4, _⟩, _⟩, _⟩, _⟩ := h
  refine ⟨?_, by omega, fun c hc => ?_, by omega⟩
  · simp only [mayB, Bool.and_eq_true, decide_eq_true_eq] at h1; omega
  · have := h3 c hc
    simp only [clB, mayB, Bool.and_eq_true, decide_eq_true_eq] at this
    omega
set_option maxRecDepth 100000 in
set_option maxHeartbeats 4000000 in
theorem copied_any (x : St) (P C D : Value) (w : World) (h : StAt w x P C D) (hf : stFew x) : Calls Try.prog 39 #[.agg (stC x P C D).toArray] w
    fun e w' => ∃ P' C' D', e = .returned (.agg (stC x P' C' D').toArray) ∧ StOwn w' w.heap.size x P' C' D' ∧ Below w.heap.size w w' := by
  obtain ⟨w0, hw0⟩ : ∃ w0 : World, w0 = (w.alloc (.cells (stC x P C D).toArray 34)).alloc (.cells (stC zeroS (.slice none 0 0) (.slice none 0 0) (.slice none 0 0)).toArray 34) := ⟨_, rfl⟩
  have hB0 : Below w.heap.size w w0 := by rw [hw0]; exact bal (bal (Below.refl _ _) _) _
  have hA : BC w0 w.heap.size (stC x P C D) := by rw [hw0]; exact (BC.new (stC x P C D) 34 rfl).below (bal (Below.refl _ _) _)
  have hR : BC w0 (w.heap.size + 1) (stC zeroS (.slice none 0 0) (.slice none 0 0) (.slice none 0 0)) := by rw [hw0]; exact BC.new (w := w.alloc (.cells (stC x P C D).toArray 34)) _ 34 (by simp)
  have h0 := h.below hB0
  clear h
  obtain ⟨⟨Ap, cp, rfl, hp, hpc, hpm⟩, hcv, ⟨Ad, cd, rfl, hd, hdc, hdm⟩⟩ := h0
  obtain ⟨Ac, cc, rfl, hc, hcc, hcm⟩ := hcv.sl
  clear hcv
  obtain ⟨hf1, hf2, hf3, hf4⟩ := hf
  obtain ⟨np, hnp⟩ : ∃ n, n = x.p.length := ⟨_, rfl⟩
  obtain ⟨nc, hnc⟩ : ∃ n, n = x.cl.length := ⟨_, rfl⟩
  obtain ⟨nd, hnd⟩ : ∃ n, n = x.da.length := ⟨_, rfl⟩
  rw [← hnp] at hA hw0 hp hpc hf1 ⊢
  rw [← hnc] at hA hw0 hcc hf2 ⊢
  rw [← hnd] at hA hw0 hd hdc hf4 ⊢
  have HNP := Lib.hid hnp
  have HNC := Lib.hid hnc
  have HND := Lib.hid hnd
  have HA := Lib.hid hA
  have HR := Lib.hid hR
  have HP := Lib.hid hp
  have HC := Lib.hid hc
  have HD := Lib.hid hd
  have HF3 := Lib.hid hf3
  unfold stC zeroS zeroM obZero at hw0
  unfold stC
  simp only at hw0
  clear hnp hnc hnd hA hp hc hd hR hf3
  go_enter Try.func39, Try.ntmps39
  go_wp2_with fail
  rw [← hw0]
  clear hw0
  have a6 := fun q : Grown w0 => q.cell (HA.out.c 6 _ rfl) HA.out.lt
  have a7 := fun q : Grown w0 => q.cell (HA.out.c 7 _ rfl) HA.out.lt
  have a15 := fun q : Grown w0 => q.cell (HA.out.c 15 _ rfl) HA.out.lt
  refine wp_region_ord (fun W => ∃ y : Grown w0, W = y.world) [10, 11, 12, 13, 14] 15 (by kernel_rfl) (by kernel_rfl) ⟨⟨_, bdrew (Below.refl _ _)⟩, rfl⟩ ?_
  intro hS
  refine ord_take (v := ?_) 0 rfl rfl (by kernel_rfl) (by kernel_rfl) (fun _ _ _ h => h) (Or.inl ⟨by rfl, ?_⟩) hS ?_
  rotate_left
  · rintro W ⟨y, rfl⟩
    go_simp
    (try with_reducible rfl)
  simp only [Act.put, List.setIfInBounds_toArray, List.set_cons_zero, List.set_cons_succ]
  refine ord_take (v := ?_) 1 rfl rfl (by kernel_rfl) (by kernel_rfl) (fun _ _ _ h => h) (Or.inl ⟨by rfl, ?_⟩) hS ?_
  rotate_left
  · rintro W ⟨y, rfl⟩
    go_simp
    (try with_reducible rfl)
  simp only [Act.put, List.setIfInBounds_toArray, List.set_cons_zero, List.set_cons_succ]
  refine ord_take (v := ?_) 3 rfl rfl (by kernel_rfl) (by kernel_rfl) (fun _ _ _ h => h) (Or.inl ⟨by rfl, ?_⟩) hS ?_
  rotate_left
  · rintro W ⟨y, rfl⟩
    go_simp
    (try with_reducible rfl)
  simp only [Act.put, List.setIfInBounds_toArray, List.set_cons_zero, List.set_cons_succ]
  refine ord_take (v := ?_) 4 rfl rfl (by kernel_rfl) (by kernel_rfl) (fun _ _ _ h => h) (Or.inl ⟨by rfl, ?_⟩) hS ?_
  rotate_left
  · rintro W ⟨y, rfl⟩
    go_simp
    (try with_reducible rfl)
  simp only [Act.put, List.setIfInBounds_toArray, List.set_cons_zero, List.set_cons_succ]
  refine ord_take (v := ?_) 6 rfl rfl (by kernel_rfl) (by kernel_rfl) (fun _ _ _ h => h) (Or.inl ⟨by rfl, ?_⟩) hS ?_
  rotate_left
  · rintro W ⟨y, rfl⟩
    go_simp
    (try with_reducible rfl)
  simp only [Act.put, List.setIfInBounds_toArray, List.set_cons_zero, List.set_cons_succ]
  refine ord_take (v := ?_) 7 rfl rfl (by kernel_rfl) (by kernel_rfl) (fun _ _ _ h => h) (Or.inl ⟨by rfl, ?_⟩) hS ?_
  rotate_left
  · rintro W ⟨y, rfl⟩
    go_simp
    (try with_reducible rfl)
  simp only [Act.put, List.setIfInBounds_toArray, List.set_cons_zero, List.set_cons_succ]
  clear a6 a7 a15
  have HG := Lib.hid (fun (W : World) (hW : Below w0.heap.size w0 W) => (⟨⟨W, hW⟩, rfl⟩ : ∃ y : Grown w0, W = y.world))
  clear hS
  refine ord_one 2 rfl (by kernel_rfl) rfl ?_
  intro K hK
  go_simp
  refine (ownSeg_any Ap np cp (sgs x.p) _ (HP.out.below (bdrew (Below.refl _ _))) (oneCell_sgs _) (by omega)).mono ?_; rintro e w3 ⟨A3, c3, rfl, ho3, hb3⟩
  have B3 := btr (bdrew (Below.refl w0.heap.size w0)) hb3
  refine hK.out _ _ (HG.out _ B3) ?_
  clear hK K
  try simp only
  have hS := HG.out _ B3
  refine ord_take (v := ?_) 9 rfl rfl (by kernel_rfl) (by kernel_rfl) (fun _ _ _ h => h) (Or.inl ⟨by rfl, ?_⟩) hS ?_
  rotate_left
  · rintro W ⟨y, rfl⟩
    go_simp
    (try with_reducible rfl)
  simp only [Act.put, List.setIfInBounds_toArray, List.set_cons_zero, List.set_cons_succ]
  clear hS
  refine ord_one 5 rfl (by kernel_rfl) rfl ?_
  intro K hK
  go_simp
  refine (clips_any Ac nc cc x.cl _ HNC.out (by omega) HF3.out (HC.out.below B3)).mono ?_; rintro e w4 ⟨A4, c4, rfl, ho4, hb4⟩
  have B4 := btr B3 hb4
  refine hK.out _ _ (HG.out _ B4) ?_
  clear hK K
  try simp only
  refine ord_one 8 rfl (by kernel_rfl) rfl ?_
  intro K hK
  go_simp
  refine (ownInt_any Ad nd cd (ints x.da) _ (HD.out.below B4) (oneCell_ints _) (by omega)).mono ?_; rintro e w5 ⟨A5, c5, rfl, ho5, hb5⟩
  have B5 := btr B4 hb5
  refine hK.out _ _ (HG.out _ B5) ?_
  clear hK K HG
  try simp only
  have A5' := HA.out.below B5
  have n0 := A5'.nf 6
  have n1 := A5'.nf 7
  have n2 := A5'.nf 15
  have k0 := A5'.c 6 _ rfl
  have k1 := A5'.c 7 _ rfl
  have k2 := A5'.c 15 _ rfl
  refine ord_cut (by kernel_rfl) ?_
  refine any_one 10 rfl (by kernel_rfl) ?_
  intro K hK
  go_simp
  refine hK.out _ _ ?_
  clear hK K
  try simp only
  refine any_one 11 rfl (by kernel_rfl) ?_
  intro K hK
  go_simp
  refine hK.out _ _ ?_
  clear hK K
  try simp only
  refine any_one 12 rfl (by kernel_rfl) ?_
  intro K hK
  go_simp
  refine hK.out _ _ ?_
  clear hK K
  try simp only
  refine any_one 13 rfl (by kernel_rfl) ?_
  intro K hK
  go_simp
  refine hK.out _ _ ?_
  clear hK K
  try simp only
  refine any_one 14 rfl (by kernel_rfl) ?_
  intro K hK
  go_simp
  refine hK.out _ _ ?_
  clear hK K
  try simp only
  refine any_done (by kernel_rfl) ?_
  refine NoPanic.normal ?_
  have hA6 := ((A5'.set 6 (.slice A3 np c3) (by show 6 < 24; omega)).set 7 (.slice A4 nc c4) (by show 7 < 24; omega)).set 15 (.slice A5 nd c5) (by show 15 < 24; omega)
  have hgl : w.heap.size < w0.heap.size := HA.out.lt
  have hR0 : w.heap.size + 1 < w0.heap.size := HR.out.lt
  have hP5 := own_below (own_below ho3 hb4) hb5
  have hC5 := ho4.below hb5
  have hg3 : w.heap.size < w0.drew.heap.size := hgl
  have hg4 : w.heap.size < w3.heap.size := Nat.lt_of_lt_of_le hgl B3.size
  have hg5 : w.heap.size < w4.heap.size := Nat.lt_of_lt_of_le hgl B4.size
  have hOwn : StOwn (((w5.setCell ⟨w.heap.size, 6, none⟩ (.slice A3 np c3)).setCell ⟨w.heap.size, 7, none⟩ (.slice A4 nc c4)).setCell ⟨w.heap.size, 15, none⟩ (.slice A5 nd c5)) w0.heap.size x (.slice A3 np c3) (.slice A4 nc c4) (.slice A5 nd c5) := by
    refine ⟨?_, ?_, ?_⟩
    · rw [HNP.out] at hP5 ⊢
      exact own_mono (own_setCell (own_setCell (own_setCell hP5 hg3 _ _) hg3 _ _) hg3 _ _) (Nat.le_refl _)
    · exact (((hC5.set hg4 _ _).set hg4 _ _).set hg4 _ _).mono B3.size
    · rw [HND.out] at ho5 ⊢
      exact own_mono (own_setCell (own_setCell (own_setCell ho5 hg5 _ _) hg5 _ _) hg5 _ _) B4.size
  have B6 : Below w.heap.size w (((w5.setCell ⟨w.heap.size, 6, none⟩ (.slice A3 np c3)).setCell ⟨w.heap.size, 7, none⟩ (.slice A4 nc c4)).setCell ⟨w.heap.size, 15, none⟩ (.slice A5 nd c5)) :=
    bset (bset (bset (btr hB0 B5) (p := ⟨w.heap.size, 6, none⟩) (Nat.le_refl _) _) (p := ⟨w.heap.size, 7, none⟩) (Nat.le_refl _) _) (p := ⟨w.heap.size, 15, none⟩) (Nat.le_refl _) _
  have hR6 : BC (((w5.setCell ⟨w.heap.size, 6, none⟩ (.slice A3 np c3)).setCell ⟨w.heap.size, 7, none⟩ (.slice A4 nc c4)).setCell ⟨w.heap.size, 15, none⟩ (.slice A5 nd c5)) (w.heap.size + 1) (stC zeroS (.slice none 0 0) (.slice none 0 0) (.slice none 0 0)) :=
    (((HR.out.below B5).apart1 (by omega) _ _).apart1 (by omega) _ _).apart1 (by omega) _ _
  obtain ⟨w6, hw6⟩ : ∃ w6, w6 = (((w5.setCell ⟨w.heap.size, 6, none⟩ (.slice A3 np c3)).setCell ⟨w.heap.size, 7, none⟩ (.slice A4 nc c4)).setCell ⟨w.heap.size, 15, none⟩ (.slice A5 nd c5)) := ⟨_, rfl⟩
  rw [← hw6] at hA6 hOwn B6 hR6 ⊢
  clear hw6 hP5 hC5 ho3 ho4 ho5 A5' n0 n1 n2 k0 k1 k2 hb3 hb4 hb5 B3 B4 B5 hB0
  have hA6' : BC w6 w.heap.size (stC x (.slice A3 np c3) (.slice A4 nc c4) (.slice A5 nd c5)) := hA6
  have hF := hR6.putAll (stC x (.slice A3 np c3) (.slice A4 nc c4) (.slice A5 nd c5)) rfl
  have hFB := below_setCells (Nat.le_succ w.heap.size) (stC x (.slice A3 np c3) (.slice A4 nc c4) (.slice A5 nd c5)) 0 _ B6
  have hone : ∀ v ∈ stC x (.slice A3 np c3) (.slice A4 nc c4) (.slice A5 nd c5), v.oneCell' = true := stC_one rfl rfl rfl
  go_wp2_with (first
    | (refine wpList_load_rec rfl _ _ rfl w.heap.size rfl _ 24 stT hA6' rfl ?_)
    | (refine wpList_store_rec rfl _ _ _ rfl (w.heap.size + 1) (stC x (.slice A3 np c3) (.slice A4 nc c4) (.slice A5 nd c5)) _ rfl rfl 24 stT hR6 rfl rfl hone ?_)
    | fail)
  refine bodyPost_ret (result_rec1 rfl rfl stT hF rfl) rfl ?_
  exact ⟨_, _, _, rfl, (hOwn.setCells hR0 _ _).mono (Nat.le_of_lt hgl), hFB⟩
end Go.Proofs.Ytaadajadeemndaa
