/- state.Here. -/
import Derived.Test.YtaadajadeemndaaThereP
namespace Go.Proofs.Ytaadajadeemndaa
open Go.RowKit Go.BigFrame

set_option maxRecDepth 100000 in
set_option maxHeartbeats 4000000 in
theorem stHere_any (x : St) (P C D : Value) (R : Int × Int × Int) (w : World) (h : StAt w x P C D) (hR : hereS x = R) : Calls Try.prog 21 #[.agg (stC x P C D).toArray] w
    fun r w' => r = .returned (vP R) ∧ Below w.heap.size w w' := by
  obtain ⟨w0, hw0⟩ : ∃ w0 : World, w0 = w.alloc (.cells (stC x P C D).toArray 34) := ⟨_, rfl⟩
  have hB0 : Below w.heap.size w w0 := by rw [hw0]; exact bal (Below.refl _ _) _
  have hA : BC w0 w.heap.size (stC x P C D) := by rw [hw0]; exact BC.new (stC x P C D) 34 rfl
  have h0 := h.below hB0
  have HM := Lib.hid fun W (hb : Below w0.heap.size w0 W) => stMay_any x P C D W (h0.below hb)
  have HB := Lib.hid fun (hf : stFew x) W (hb : Below w0.heap.size w0 W) => base_any x P C D W (h0.below hb) hf
  have HA := Lib.hid hA
  have HR := Lib.hid hR
  unfold vP at HB
  clear hA h0 h hR
  go_enter Try.func21, Try.ntmps21
  go_upto_region 1 with (fail)
  rw [← hw0]
  clear hw0
  go_wp2_with (first
    | (refine wpList_load_rec rfl _ _ rfl w.heap.size rfl _ 24 stT HA.out rfl ?_)
    | fail)
  refine (HM.out _ (Below.refl _ _)).mono ?_; rintro e w1 ⟨rfl, hb1⟩
  have G1 := hb1
  have B1 := btr hB0 G1
  clear hb1
  cases hm : mayS x
  · have HR2 := Lib.hid (show R = (0, 0, 1) by rw [← HR.out]; unfold hereS; rw [hm]; simp)
    go_wp2_with fail
    go_ret3
    rw [HR2.out]
    exact ⟨rfl, B1⟩
  · have HBB := Lib.hid (HB.out (mayS_few hm))
    have A1 := HA.out.below G1
    obtain ⟨⟨bx, bv, be⟩, hbe⟩ : ∃ b, baseL x.p = b := ⟨_, rfl⟩
    have HR3 := Lib.hid (show R = if be ≠ 0 then (0, 0, be) else backM x.m bx bv by rw [← HR.out]; unfold hereS; rw [hm, hbe]; simp)
    have HK := Lib.hid fun W => matBack_any x.m bx bv W
    unfold mtv vP at HK
    rw [hbe] at HBB
    simp only at HBB
    clear hbe hm HR HB
    go_wp2_with (first
      | (refine wpList_load_rec rfl _ _ rfl w.heap.size rfl _ 24 stT A1 rfl ?_)
      | fail)
    refine (HBB.out _ G1).mono ?_; rintro e w2 ⟨rfl, hb2⟩
    have G2 := btr G1 hb2
    have B2 := btr B1 hb2
    clear hb2 A1
    by_cases hbe : be = 0
    · subst hbe
      have HR2 := Lib.hid (show R = backM x.m bx bv by rw [HR3.out]; simp)
      have A2 := HA.out.below G2
      have c0 := A2.c 0 _ rfl
      have c1 := A2.c 1 _ rfl
      have c2 := A2.c 2 _ rfl
      have c3 := A2.c 3 _ rfl
      have c4 := A2.c 4 _ rfl
      have c5 := A2.c 5 _ rfl
      clear HR3 A2
      go_wp2_with fail
      refine (HK.out _).mono ?_; rintro e w3 ⟨rfl, hb3⟩
      go_wp2_with fail
      go_ret3
      rw [HR2.out]
      exact ⟨rfl, btr B2 hb3⟩
    · have HR2 := Lib.hid (show R = (0, 0, be) by rw [HR3.out]; simp [hbe])
      have he0 : (be == 0) = false := by simp [hbe]
      go_wp2_with fail
      go_ret3
      rw [HR2.out]
      exact ⟨rfl, B2⟩
end Go.Proofs.Ytaadajadeemndaa
