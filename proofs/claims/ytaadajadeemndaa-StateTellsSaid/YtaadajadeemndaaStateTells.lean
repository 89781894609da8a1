/- StateTells: the walk. -/
import Derived.Test.YtaadajadeemndaaMStBox
import Derived.Test.YtaadajadeemndaaMBack
import Derived.Test.YtaadajadeemndaaStHere
import Derived.Test.YtaadajadeemndaaHelpState
import Derived.Test.YtaadajadeemndaaFew
import Derived.Test.YtaadajadeemndaaKnown42
namespace Go.Proofs.Ytaadajadeemndaa
open Go.RowKit Go.BigFrame

theorem new_at (h : Int) (w : World) : StAt w (newB h).1 (.slice none 0 0) (.slice none 0 0) (.slice none 0 0) := by
  unfold newB
  split
  · exact ⟨PathV.nil, ClV.nil, IntsV.nil⟩
  · exact ⟨PathV.nil, ClV.nil, IntsV.nil⟩
theorem new_few (h : Int) : stFew (newB h).1 := by
  unfold newB
  split
  · exact ⟨by simp [newS], by simp [newS], by simp [newS], by simp [newS]⟩
  · exact ⟨by simp [zeroS], by simp [zeroS], by simp [zeroS], by simp [zeroS]⟩
theorem bx0_lit : (bxc bx0).toArray = #[.int .i64 0, .int .i64 0, .int .i64 0, .int .i64 0] := rfl
/-- A new block into which a box is written whole. -/
theorem put_newB {W : World} {vs : List Value} (hl : vs.length = 4) : ∃ W', W' = (W.alloc (.cells (bxc bx0).toArray 69)).setCells W.heap.size 0 vs ∧ BC W' W.heap.size vs ∧
    Below W.heap.size W W' ∧ BC (W.alloc (.cells (bxc bx0).toArray 69)) W.heap.size (bxc bx0) := by
  have h := BC.new (w := W) (g := W.heap.size) (bxc bx0) 69 rfl
  exact ⟨_, rfl, h.putAll vs (by rw [hl]; rfl), below_setCells (Nat.le_refl _) _ _ _ (bal (Below.refl _ _) _), h⟩
theorem yieldsIf_load_rec {P : Program} {ops : Array Oper} {S : World → Prop} {op : Oper} {a : Act} (hw : Region.wanted op (yielded ops a.tmps) = true) (t : TypeId) (x : Operand) (ho : op.op = .load t x)
    (g : Nat) (hx : a.eval x = .pointer (some ⟨g, 0, none⟩)) (C : List Value) (n : Nat) (hT : RecT P t n) (hS : ∀ W, S W → BC W g C) (hn : C.length = n) : YieldsIf P ops S op (.agg C.toArray) a := by
  obtain ⟨d, hu, hd, hi⟩ := hT
  exact yieldsIf_load_mid hw t x ho g 0 hx C d (fun W hW => (hS W hW).range) hu hd (by rw [hi, hn])
set_option maxRecDepth 100000 in
set_option maxHeartbeats 8000000 in
theorem StateTells_any (x : St) (P C D : Value) (hh : Int) (w : World) (h : StAt w x P C D) (hr : stReach x) :
    Calls Try.prog 7 #[.agg (stC x P C D).toArray, .int .i64 hh] w fun e w' => e = .returned (.bool true) ∧ Below w.heap.size w w' := by
  obtain ⟨w0, hw0⟩ : ∃ w0 : World, w0 = w.alloc (.cells (stC x P C D).toArray 34) := ⟨_, rfl⟩
  have hB0 : Below w.heap.size w w0 := by rw [hw0]; exact bal (Below.refl _ _) _
  have hA : BC w0 w.heap.size (stC x P C D) := by rw [hw0]; exact BC.new (stC x P C D) 34 rfl
  have h0 := h.below hB0
  have HS := Lib.hid h
  have HFw := Lib.hid fun W (hb : Below w0.heap.size w0 W) => few_any x P C D W (h0.below hb) hr
  have HA := Lib.hid hA
  clear h0 h hA
  go_enter Try.func7, Try.ntmps7
  go_upto_region 1 with (fail)
  rw [← hw0]
  clear hw0
  go_wp2_with fail
  refine (known42_any _).mono ?_; rintro e w1 ⟨rfl, G1⟩
  have A1 := HA.out.below G1
  go_wp2_with (first
    | (refine wpList_load_rec rfl _ _ rfl w.heap.size rfl _ 24 stT A1 rfl ?_)
    | fail)
  refine (HFw.out _ G1).mono ?_; rintro e w2 ⟨rfl, hb2⟩
  have G2 := btr G1 hb2
  clear hb2 A1 HFw
  cases hfw : fewB x
  · go_wp2_with fail
    go_ret
    exact ⟨rfl, btr hB0 G2⟩
  have HFEW : Hid (stFew x) := Lib.hid (fewB_few hfw)
  clear hfw
  have HNA := Lib.hid fun W => stNew_all hh W
  have HNB := Lib.hid fun W => rNew_all hh W
  have HNC := Lib.hid fun W => new_at hh W
  have HNF := Lib.hid (new_few hh)
  obtain ⟨⟨N, ne⟩, hN⟩ : ∃ N, newB hh = N := ⟨_, rfl⟩
  rw [hN] at HNA HNB HNC HNF
  simp only at HNA HNB HNC HNF
  have hoN : ∀ v ∈ stC N (.slice none 0 0) (.slice none 0 0) (.slice none 0 0), v.oneCell' = true := stC_one rfl rfl rfl
  have HON := Lib.hid hoN
  clear hN hoN
  go_wp2_with fail
  refine (HNA.out _).mono ?_; rintro e w3 ⟨rfl, hb3⟩
  have G3 := btr G2 hb3
  obtain ⟨w4, hw4, N4, b4, Z4⟩ := put_new (W := w3) (vs := stC N (.slice none 0 0) (.slice none 0 0) (.slice none 0 0)) rfl
  have G4 := btr G3 b4
  rw [zero_lit] at hw4 Z4
  have HW4 := Lib.hid hw4
  have one4 := HON.out
  clear hw4 hb3 b4
  go_wp2_with (first
    | (refine wpList_store_rec rfl _ _ _ rfl (w3.heap.size) (stC N (.slice none 0 0) (.slice none 0 0) (.slice none 0 0)) _ rfl rfl 24 stT Z4 rfl rfl one4 ?_; rw [← HW4.out])
    | fail)
  refine (HNB.out _).mono ?_; rintro e w5 ⟨rfl, hb5⟩
  have G5 := btr G4 hb5
  obtain ⟨w6, hw6, N6, b6, Z6⟩ := put_new (W := w5) (vs := stC N (.slice none 0 0) (.slice none 0 0) (.slice none 0 0)) rfl
  have G6 := btr G5 b6
  have N4' := N4.below (btr hb5 b6)
  rw [zero_lit] at hw6 Z6
  have HW6 := Lib.hid hw6
  have A6 := HA.out.below G6
  clear hw6 N4 hb5 b6 Z4
  obtain ⟨⟨hx, hy, he⟩, hR⟩ : ∃ R, hereS x = R := ⟨_, rfl⟩
  have HHA := Lib.hid (stHere_any x P C D (hx, hy, he) w6 (HS.out.below (btr hB0 G6)) hR)
  have HHB := Lib.hid fun W (hb : Below w6.heap.size w6 W) => rHere_any x P C D (hx, hy, he) W (HS.out.below (btr hB0 (btr G6 hb))) HFEW.out hR
  unfold vP at HHA HHB
  simp only at HHA HHB
  clear hR
  go_wp2_with (first
    | (refine wpList_store_rec rfl _ _ _ rfl (w5.heap.size) (stC N (.slice none 0 0) (.slice none 0 0) (.slice none 0 0)) _ rfl rfl 24 stT Z6 rfl rfl one4 ?_; rw [← HW6.out])
    | (refine wpList_load_rec rfl _ _ rfl w.heap.size rfl _ 24 stT A6 rfl ?_)
    | fail)
  refine HHA.out.mono ?_; rintro e w7 ⟨rfl, hb7⟩
  have A7 := A6.below hb7
  clear A6 Z6
  go_wp2_with (first
    | (refine wpList_load_rec rfl _ _ rfl w.heap.size rfl _ 24 stT A7 rfl ?_)
    | fail)
  refine (HHB.out _ hb7).mono ?_; rintro e w8 ⟨rfl, hb8⟩
  have G8 := btr G6 (btr hb7 hb8)
  have A8 := A7.below hb8
  have N8 := N4'.below (btr hb7 hb8)
  have M8 := N6.below (btr hb7 hb8)
  clear A7 N4' N6 hb7 hb8 HHA HHB
  obtain ⟨⟨bq, be⟩, hY⟩ : ∃ Y, boxS x = Y := ⟨_, rfl⟩
  have HBA := Lib.hid (stBox_any x P C D (bq, be) w8 (HS.out.below (btr hB0 G8)) hY)
  have HBB := Lib.hid fun W (hb : Below w8.heap.size w8 W) => rBoxS_any x P C D (bq, be) W (HS.out.below (btr hB0 (btr G8 hb))) HFEW.out hY
  simp only at HBA HBB
  clear hY
  go_wp2_with (first
    | (refine wpList_load_rec rfl _ _ rfl w.heap.size rfl _ 24 stT A8 rfl ?_)
    | fail)
  refine HBA.out.mono ?_; rintro e w9 ⟨rfl, hb9⟩
  obtain ⟨wa, hwa, Qa, ba, Za⟩ := put_newB (W := w9) (vs := bxc bq) rfl
  rw [bx0_lit] at hwa Za
  have HWa := Lib.hid hwa
  have Aa := A8.below (btr hb9 ba)
  have ga := btr hb9 ba
  have onea := bxc_one bq
  clear hwa
  go_wp2_with (first
    | (refine wpList_store_rec rfl _ _ _ rfl (w9.heap.size) (bxc bq) _ rfl rfl 4 arr4T Za rfl rfl onea ?_; rw [← HWa.out])
    | (refine wpList_load_rec rfl _ _ rfl w.heap.size rfl _ 24 stT Aa rfl ?_)
    | fail)
  refine (HBB.out _ ga).mono ?_; rintro e wb ⟨rfl, hbb⟩
  obtain ⟨wc, hwc, Qc, bc, Zc⟩ := put_newB (W := wb) (vs := bxc bq) rfl
  rw [bx0_lit] at hwc Zc
  have HWc := Lib.hid hwc
  have gc := btr ga (btr hbb bc)
  have Gc := btr G8 gc
  have Ac := Aa.below (btr hbb bc)
  have Nc := N8.below gc
  have Mc := M8.below gc
  have Qa' := Qa.below (btr hbb bc)
  clear hwc A8 N8 M8 ga gc Za hb9 ba Aa Qa hbb bc
  have HL : Hid (∀ W, (∃ y : Grown wc, W = y.world) → BC W w.heap.size (stC x P C D)) := Lib.hid (by rintro W ⟨⟨W', hW⟩, rfl⟩; exact Ac.below hW)
  have HLN : Hid (∀ W, (∃ y : Grown wc, W = y.world) → BC W w3.heap.size (stC N (.slice none 0 0) (.slice none 0 0) (.slice none 0 0))) := Lib.hid (by rintro W ⟨⟨W', hW⟩, rfl⟩; exact Nc.below hW)
  have HLM : Hid (∀ W, (∃ y : Grown wc, W = y.world) → BC W w5.heap.size (stC N (.slice none 0 0) (.slice none 0 0) (.slice none 0 0))) := Lib.hid (by rintro W ⟨⟨W', hW⟩, rfl⟩; exact Mc.below hW)
  have HLQ : Hid (∀ W, (∃ y : Grown wc, W = y.world) → BC W w9.heap.size (bxc bq)) := Lib.hid (by rintro W ⟨⟨W', hW⟩, rfl⟩; exact Qa'.below hW)
  have HLR : Hid (∀ W, (∃ y : Grown wc, W = y.world) → BC W wb.heap.size (bxc bq)) := Lib.hid (by rintro W ⟨⟨W', hW⟩, rfl⟩; exact Qc.below hW)
  go_wp2_with (first
    | (refine wpList_store_rec rfl _ _ _ rfl (wb.heap.size) (bxc bq) _ rfl rfl 4 arr4T Zc rfl rfl onea ?_; rw [← HWc.out])
    | fail)
  have HMa := Lib.hid fun W (hb : Below wc.heap.size wc W) => stMay_any x P C D W (HS.out.below (btr hB0 (btr Gc hb)))
  have HMb := Lib.hid fun W (hb : Below wc.heap.size wc W) => rStMay_any x P C D W (HS.out.below (btr hB0 (btr Gc hb))) HFEW.out
  obtain ⟨qm, hqm⟩ : ∃ q, mayS x = q := ⟨_, rfl⟩
  rw [hqm] at HMa HMb
  have HHS := Lib.hid fun W => helpState_any N _ _ _ _ _ _ W (HNC.out W) (HNC.out W) HNF.out
  clear hqm Ac Nc Mc Qa' Qc
  refine wp_region_ord (fun W => ∃ y : Grown wc, W = y.world) [] 41 (by kernel_rfl) (by kernel_rfl) ⟨⟨_, bdrew (Below.refl _ _)⟩, rfl⟩ ?_
  have HG := Lib.hid (fun (W : World) (hW : Below wc.heap.size wc W) => (⟨⟨W, hW⟩, rfl⟩ : ∃ y : Grown wc, W = y.world))
  have HB := bdrew (Below.refl wc.heap.size wc)
  intro hS
  refine ord_take 0 rfl rfl (by kernel_rfl) (by kernel_rfl) (fun _ _ _ h => h) (yieldsIf_load_rec (by rfl) _ _ rfl _ rfl _ 24 stT HL.out rfl) hS ?_
  simp only [Act.put, List.setIfInBounds_toArray, List.set_cons_zero, List.set_cons_succ]
  refine ord_take 2 rfl rfl (by kernel_rfl) (by kernel_rfl) (fun _ _ _ h => h) (yieldsIf_load_rec (by rfl) _ _ rfl _ rfl _ 24 stT HL.out rfl) hS ?_
  simp only [Act.put, List.setIfInBounds_toArray, List.set_cons_zero, List.set_cons_succ]
  clear hS
  refine ord_one 1 rfl (by kernel_rfl) rfl ?_
  intro K hK
  go_simp
  refine (HMa.out _ HB).mono ?_; rintro e wn ⟨rfl, hbn⟩
  have Hn := btr HB hbn
  refine hK.out _ _ (HG.out _ Hn) ?_
  clear hK K HB hbn
  have HB := Hn
  clear Hn
  try simp only
  have hS := HG.out _ HB
  clear hS
  refine ord_one 3 rfl (by kernel_rfl) rfl ?_
  intro K hK
  go_simp
  refine (HMb.out _ HB).mono ?_; rintro e wn ⟨rfl, hbn⟩
  have Hn := btr HB hbn
  refine hK.out _ _ (HG.out _ Hn) ?_
  clear hK K HB hbn
  have HB := Hn
  clear Hn
  try simp only
  have hS := HG.out _ HB
  refine ord_take (v := ?_) 4 rfl rfl (by kernel_rfl) (by kernel_rfl) (fun _ _ _ h => h) (Or.inl ⟨by rfl, ?_⟩) hS ?_
  rotate_left
  · rintro W ⟨y, rfl⟩
    go_simp
    (try with_reducible rfl)
  simp only [Act.put, List.setIfInBounds_toArray, List.set_cons_zero, List.set_cons_succ]
  refine ord_take (v := ?_) 5 rfl rfl (by kernel_rfl) (by kernel_rfl) (fun _ _ _ h => h) (Or.inl ⟨by rfl, ?_⟩) hS ?_
  rotate_left
  · rintro W ⟨y, rfl⟩
    go_simp
    (try with_reducible rfl)
  simp only [Act.put, List.setIfInBounds_toArray, List.set_cons_zero, List.set_cons_succ]
  refine ord_take 6 rfl rfl (by kernel_rfl) (by kernel_rfl) (fun _ _ _ h => h) (yieldsIf_load_rec (by rfl) _ _ rfl _ rfl _ 24 stT HLN.out rfl) hS ?_
  simp only [Act.put, List.setIfInBounds_toArray, List.set_cons_zero, List.set_cons_succ]
  refine ord_take 7 rfl rfl (by kernel_rfl) (by kernel_rfl) (fun _ _ _ h => h) (yieldsIf_load_rec (by rfl) _ _ rfl _ rfl _ 24 stT HLM.out rfl) hS ?_
  simp only [Act.put, List.setIfInBounds_toArray, List.set_cons_zero, List.set_cons_succ]
  clear hS
  refine ord_one 8 rfl (by kernel_rfl) rfl ?_
  intro K hK
  go_simp
  refine (HHS.out _).mono ?_; rintro e wn ⟨rfl, hbn⟩
  have Hn := btr HB hbn
  refine hK.out _ _ (HG.out _ Hn) ?_
  clear hK K HB hbn
  have HB := Hn
  clear Hn
  try simp only
  have hS := HG.out _ HB
  refine ord_take (v := ?_) 9 rfl rfl (by kernel_rfl) (by kernel_rfl) (fun _ _ _ h => h) (Or.inl ⟨by rfl, ?_⟩) hS ?_
  rotate_left
  · rintro W ⟨y, rfl⟩
    go_simp
    (try with_reducible rfl)
  simp only [Act.put, List.setIfInBounds_toArray, List.set_cons_zero, List.set_cons_succ]
  refine ord_take (v := ?_) 10 rfl rfl (by kernel_rfl) (by kernel_rfl) (fun _ _ _ h => h) (Or.inl ⟨by rfl, ?_⟩) hS ?_
  rotate_left
  · rintro W ⟨y, rfl⟩
    go_simp
    (try with_reducible rfl)
  simp only [Act.put, List.setIfInBounds_toArray, List.set_cons_zero, List.set_cons_succ]
  refine ord_take (v := ?_) 11 rfl rfl (by kernel_rfl) (by kernel_rfl) (fun _ _ _ h => h) (Or.inl ⟨by rfl, ?_⟩) hS ?_
  rotate_left
  · rintro W ⟨y, rfl⟩
    go_simp
    (try with_reducible rfl)
  simp only [Act.put, List.setIfInBounds_toArray, List.set_cons_zero, List.set_cons_succ]
  refine ord_take (v := ?_) 12 rfl rfl (by kernel_rfl) (by kernel_rfl) (fun _ _ _ h => h) (Or.inl ⟨by rfl, ?_⟩) hS ?_
  rotate_left
  · rintro W ⟨y, rfl⟩
    go_simp
    (try with_reducible rfl)
  simp only [Act.put, List.setIfInBounds_toArray, List.set_cons_zero, List.set_cons_succ]
  refine ord_take (v := ?_) 13 rfl rfl (by kernel_rfl) (by kernel_rfl) (fun _ _ _ h => h) (Or.inl ⟨by rfl, ?_⟩) hS ?_
  rotate_left
  · rintro W ⟨y, rfl⟩
    go_simp
    (try with_reducible rfl)
  simp only [Act.put, List.setIfInBounds_toArray, List.set_cons_zero, List.set_cons_succ]
  refine ord_take (v := ?_) 14 rfl rfl (by kernel_rfl) (by kernel_rfl) (fun _ _ _ h => h) (Or.inl ⟨by rfl, ?_⟩) hS ?_
  rotate_left
  · rintro W ⟨y, rfl⟩
    go_simp
    (try with_reducible rfl)
  simp only [Act.put, List.setIfInBounds_toArray, List.set_cons_zero, List.set_cons_succ]
  refine ord_take (v := ?_) 15 rfl rfl (by kernel_rfl) (by kernel_rfl) (fun _ _ _ h => h) (Or.inl ⟨by rfl, ?_⟩) hS ?_
  rotate_left
  · rintro W ⟨y, rfl⟩
    go_simp
    (try with_reducible rfl)
  simp only [Act.put, List.setIfInBounds_toArray, List.set_cons_zero, List.set_cons_succ]
  refine ord_take (v := ?_) 16 rfl rfl (by kernel_rfl) (by kernel_rfl) (fun _ _ _ h => h) (Or.inl ⟨by rfl, ?_⟩) hS ?_
  rotate_left
  · rintro W ⟨y, rfl⟩
    go_simp
    (try with_reducible rfl)
  simp only [Act.put, List.setIfInBounds_toArray, List.set_cons_zero, List.set_cons_succ]
  refine ord_take (v := ?_) 17 rfl rfl (by kernel_rfl) (by kernel_rfl) (fun _ _ _ h => h) (Or.inl ⟨by rfl, ?_⟩) hS ?_
  rotate_left
  · rintro W ⟨y, rfl⟩
    go_simp
    (try with_reducible rfl)
  simp only [Act.put, List.setIfInBounds_toArray, List.set_cons_zero, List.set_cons_succ]
  refine ord_take (v := ?_) 18 rfl rfl (by kernel_rfl) (by kernel_rfl) (fun _ _ _ h => h) (Or.inl ⟨by rfl, ?_⟩) hS ?_
  rotate_left
  · rintro W ⟨y, rfl⟩
    go_simp
    (try with_reducible rfl)
  simp only [Act.put, List.setIfInBounds_toArray, List.set_cons_zero, List.set_cons_succ]
  refine ord_take (v := ?_) 19 rfl rfl (by kernel_rfl) (by kernel_rfl) (fun _ _ _ h => h) (Or.inl ⟨by rfl, ?_⟩) hS ?_
  rotate_left
  · rintro W ⟨y, rfl⟩
    go_simp
    (try with_reducible rfl)
  simp only [Act.put, List.setIfInBounds_toArray, List.set_cons_zero, List.set_cons_succ]
  refine ord_take (v := ?_) 20 rfl rfl (by kernel_rfl) (by kernel_rfl) (fun _ _ _ h => h) (Or.inl ⟨by rfl, ?_⟩) hS ?_
  rotate_left
  · rintro W ⟨y, rfl⟩
    go_simp
    (try with_reducible rfl)
  simp only [Act.put, List.setIfInBounds_toArray, List.set_cons_zero, List.set_cons_succ]
  refine ord_take (v := ?_) 21 rfl rfl (by kernel_rfl) (by kernel_rfl) (fun _ _ _ h => h) (Or.inl ⟨by rfl, ?_⟩) hS ?_
  rotate_left
  · rintro W ⟨y, rfl⟩
    go_simp
    (try with_reducible rfl)
  simp only [Act.put, List.setIfInBounds_toArray, List.set_cons_zero, List.set_cons_succ]
  refine ord_take (v := ?_) 22 rfl rfl (by kernel_rfl) (by kernel_rfl) (fun _ _ _ h => h) (Or.inl ⟨by rfl, ?_⟩) hS ?_
  rotate_left
  · rintro W ⟨y, rfl⟩
    go_simp
    (try with_reducible rfl)
  simp only [Act.put, List.setIfInBounds_toArray, List.set_cons_zero, List.set_cons_succ]
  refine ord_take (v := ?_) 23 rfl rfl (by kernel_rfl) (by kernel_rfl) (fun _ _ _ h => h) (Or.inl ⟨by rfl, ?_⟩) hS ?_
  rotate_left
  · rintro W ⟨y, rfl⟩
    go_simp
    (try with_reducible rfl)
  simp only [Act.put, List.setIfInBounds_toArray, List.set_cons_zero, List.set_cons_succ]
  refine ord_take (v := ?_) 24 rfl rfl (by kernel_rfl) (by kernel_rfl) (fun _ _ _ h => h) (Or.inl ⟨by rfl, ?_⟩) hS ?_
  rotate_left
  · rintro W ⟨y, rfl⟩
    go_simp
    (try with_reducible rfl)
  simp only [Act.put, List.setIfInBounds_toArray, List.set_cons_zero, List.set_cons_succ]
  refine ord_take (v := ?_) 25 rfl rfl (by kernel_rfl) (by kernel_rfl) (fun _ _ _ h => h) (Or.inl ⟨by rfl, ?_⟩) hS ?_
  rotate_left
  · rintro W ⟨y, rfl⟩
    go_simp
    (try with_reducible rfl)
  simp only [Act.put, List.setIfInBounds_toArray, List.set_cons_zero, List.set_cons_succ]
  refine ord_take (v := ?_) 26 rfl rfl (by kernel_rfl) (by kernel_rfl) (fun _ _ _ h => h) (Or.inl ⟨by rfl, ?_⟩) hS ?_
  rotate_left
  · rintro W ⟨y, rfl⟩
    go_simp
    (try with_reducible rfl)
  simp only [Act.put, List.setIfInBounds_toArray, List.set_cons_zero, List.set_cons_succ]
  refine ord_take (v := ?_) 27 rfl rfl (by kernel_rfl) (by kernel_rfl) (fun _ _ _ h => h) (Or.inl ⟨by rfl, ?_⟩) hS ?_
  rotate_left
  · rintro W ⟨y, rfl⟩
    go_simp
    (try with_reducible rfl)
  simp only [Act.put, List.setIfInBounds_toArray, List.set_cons_zero, List.set_cons_succ]
  refine ord_take (v := ?_) 28 rfl rfl (by kernel_rfl) (by kernel_rfl) (fun _ _ _ h => h) (Or.inl ⟨by rfl, ?_⟩) hS ?_
  rotate_left
  · rintro W ⟨y, rfl⟩
    go_simp
    (try with_reducible rfl)
  simp only [Act.put, List.setIfInBounds_toArray, List.set_cons_zero, List.set_cons_succ]
  refine ord_take (v := ?_) 29 rfl rfl (by kernel_rfl) (by kernel_rfl) (fun _ _ _ h => h) (Or.inl ⟨by rfl, ?_⟩) hS ?_
  rotate_left
  · rintro W ⟨y, rfl⟩
    go_simp
    (try with_reducible rfl)
  simp only [Act.put, List.setIfInBounds_toArray, List.set_cons_zero, List.set_cons_succ]
  refine ord_take (v := ?_) 30 rfl rfl (by kernel_rfl) (by kernel_rfl) (fun _ _ _ h => h) (Or.inl ⟨by rfl, ?_⟩) hS ?_
  rotate_left
  · rintro W ⟨y, rfl⟩
    go_simp
    (try with_reducible rfl)
  simp only [Act.put, List.setIfInBounds_toArray, List.set_cons_zero, List.set_cons_succ]
  refine ord_take 31 rfl rfl (by kernel_rfl) (by kernel_rfl) (fun _ _ _ h => h) (yieldsIf_load_rec (by rfl) _ _ rfl _ rfl _ 4 arr4T HLQ.out rfl) hS ?_
  simp only [Act.put, List.setIfInBounds_toArray, List.set_cons_zero, List.set_cons_succ]
  refine ord_take 32 rfl rfl (by kernel_rfl) (by kernel_rfl) (fun _ _ _ h => h) (yieldsIf_load_rec (by rfl) _ _ rfl _ rfl _ 4 arr4T HLR.out rfl) hS ?_
  simp only [Act.put, List.setIfInBounds_toArray, List.set_cons_zero, List.set_cons_succ]
  have hE := fun W => eql_bx bq W
  refine ord_take (v := ?_) 33 rfl rfl (by kernel_rfl) (by kernel_rfl) (fun _ _ _ h => h) (Or.inl ⟨by rfl, ?_⟩) hS ?_
  rotate_left
  · rintro W ⟨y, rfl⟩
    go_simp
    (try with_reducible rfl)
  simp only [Act.put, List.setIfInBounds_toArray, List.set_cons_zero, List.set_cons_succ]
  clear hE
  refine ord_take (v := ?_) 34 rfl rfl (by kernel_rfl) (by kernel_rfl) (fun _ _ _ h => h) (Or.inl ⟨by rfl, ?_⟩) hS ?_
  rotate_left
  · rintro W ⟨y, rfl⟩
    go_simp
    (try with_reducible rfl)
  simp only [Act.put, List.setIfInBounds_toArray, List.set_cons_zero, List.set_cons_succ]
  refine ord_take (v := ?_) 35 rfl rfl (by kernel_rfl) (by kernel_rfl) (fun _ _ _ h => h) (Or.inl ⟨by rfl, ?_⟩) hS ?_
  rotate_left
  · rintro W ⟨y, rfl⟩
    go_simp
    (try with_reducible rfl)
  simp only [Act.put, List.setIfInBounds_toArray, List.set_cons_zero, List.set_cons_succ]
  refine ord_take (v := ?_) 36 rfl rfl (by kernel_rfl) (by kernel_rfl) (fun _ _ _ h => h) (Or.inl ⟨by rfl, ?_⟩) hS ?_
  rotate_left
  · rintro W ⟨y, rfl⟩
    go_simp
    (try with_reducible rfl)
  simp only [Act.put, List.setIfInBounds_toArray, List.set_cons_zero, List.set_cons_succ]
  refine ord_take (v := ?_) 37 rfl rfl (by kernel_rfl) (by kernel_rfl) (fun _ _ _ h => h) (Or.inl ⟨by rfl, ?_⟩) hS ?_
  rotate_left
  · rintro W ⟨y, rfl⟩
    go_simp
    (try with_reducible rfl)
  simp only [Act.put, List.setIfInBounds_toArray, List.set_cons_zero, List.set_cons_succ]
  refine ord_take (v := ?_) 38 rfl rfl (by kernel_rfl) (by kernel_rfl) (fun _ _ _ h => h) (Or.inl ⟨by rfl, ?_⟩) hS ?_
  rotate_left
  · rintro W ⟨y, rfl⟩
    go_simp
    (try with_reducible rfl)
  simp only [Act.put, List.setIfInBounds_toArray, List.set_cons_zero, List.set_cons_succ]
  refine ord_take (v := ?_) 39 rfl rfl (by kernel_rfl) (by kernel_rfl) (fun _ _ _ h => h) (Or.inl ⟨by rfl, ?_⟩) hS ?_
  rotate_left
  · rintro W ⟨y, rfl⟩
    go_simp
    (try with_reducible rfl)
  simp only [Act.put, List.setIfInBounds_toArray, List.set_cons_zero, List.set_cons_succ]
  refine ord_take (v := ?_) 40 rfl rfl (by kernel_rfl) (by kernel_rfl) (fun _ _ _ h => h) (Or.inl ⟨by rfl, ?_⟩) hS ?_
  rotate_left
  · rintro W ⟨y, rfl⟩
    go_simp
    (try with_reducible rfl)
  simp only [Act.put, List.setIfInBounds_toArray, List.set_cons_zero, List.set_cons_succ]
  refine ⟨by kernel_rfl, ?_⟩
  refine NoPanic.normal ?_
  go_wp2_with fail
  go_ret
  exact ⟨rfl, btr hB0 (btr Gc HB)⟩
end Go.Proofs.Ytaadajadeemndaa
