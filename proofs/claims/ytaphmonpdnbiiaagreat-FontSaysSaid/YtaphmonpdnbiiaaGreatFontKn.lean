/- The document's example of a font. -/
import Derived.Test.YtaphmonpdnbiiaaGreatMF3
import Derived.Test.YtaphmonpdnbiiaaGreatAllP
import Derived.Test.YtaphmonpdnbiiaaGreatMFp
import Derived.Test.YtaphmonpdnbiiaaGreatMGc
namespace Go.Proofs.YtaphmonpdnbiiaaGreat
open Go.RowKit Go.Maps Go.BigFrame

def prog0 : ByteArray := strOfNums [0, 149, 1, 139, 139, 2, 149, 5, 10]
def F0 : Fo := ⟨oneM, [strA], [⟨strA, prog0⟩], []⟩
def L0 : List Sg := [⟨1, 0, 0, 0, 0⟩, ⟨2, 10, 0, 0, 0⟩]
theorem kn_open : openB F0 = true := by decide +kernel
theorem kn_path : pathF F0 oneM 0 0 0 = (L0, 0) := by decide +kernel
theorem kn_wide : wideF F0 0 = (10, 0) := by decide +kernel
theorem kn_out : outF F0 oneM 0 0 (bl { data := #[] }) = (([], 0, 0), 0) := by decide +kernel
theorem kn_ok : FoOK F0 := by
  refine ⟨by decide, by decide, by decide, ?_, ?_⟩
  · intro s hs; simp only [F0, List.mem_singleton] at hs; subst hs; decide
  · intro x hx; simp only [F0, List.mem_singleton] at hx; subst hx; exact ⟨by unfold SzOK; decide, by unfold SzOK; decide +kernel⟩
def KnA (u1 u10 u11 u12 u13 u14 u15 u16 : Value) : Act :=
  { tmps := #[.bool false, u1, undef, undef, undef, undef, undef, undef, undef, undef, u10, u11, u12, u13, u14, u15, u16, undef, undef, undef, undef, undef, undef, undef, undef, undef, undef, undef, undef, undef, undef, undef, undef, undef, undef, undef, undef, undef, undef, undef, undef, undef, undef, undef, undef, undef, undef, undef, undef, undef, undef, undef, undef, undef, undef, undef, undef, undef, undef, undef, undef, undef, undef, undef, undef, undef, undef, undef, undef, undef], defers := [] }
def prc9 : List Value := [.int .u8 0, .int .u8 149, .int .u8 1, .int .u8 139, .int .u8 139, .int .u8 2, .int .u8 149, .int .u8 5, .int .u8 10]
def foZK : List Value := foC zeroM (.slice none 0 0) (.slice none 0 0) (.slice none 0 0)
theorem Sl.apartN {w : World} {s n b g : Nat} {xs : List Value} (h : Sl w s (some ⟨b, 0, none⟩) n xs) (hb : b ≠ g) (vs : List Value) : Sl (w.setCells g 0 vs) s (some ⟨b, 0, none⟩) n xs :=
  ⟨h.1, fun hn => by
    obtain ⟨b', off, e, hlt, hc⟩ := h.2 hn
    simp only [Option.some.injEq, Addr.mk.injEq, and_true] at e
    obtain ⟨rfl, rfl⟩ := e
    refine ⟨b, 0, rfl, by rw [setCells_size]; exact hlt, fun j u hu => ?_⟩
    rw [World.cell?_setCells_out g vs 0 w _ (fun e _ => absurd e hb)]
    exact hc j u hu⟩
theorem Sl.first {w : World} {s n b : Nat} {x : Value} {xs : List Value} (h : Sl w s (some ⟨b, 0, none⟩) n (x :: xs)) (hn : 0 < n) : w.cell? ⟨b, 0, none⟩ = some x := by
  obtain ⟨b', off, e, hlt, hc⟩ := h.2 hn
  simp only [Option.some.injEq, Addr.mk.injEq, and_true] at e
  obtain ⟨rfl, rfl⟩ := e
  exact hc 0 x rfl
structure KnF (w : World) (L : Nat → Bool) (u1 u10 u11 u12 u13 u14 u15 u16 : Value) (W : World) : Prop where
  f0 : L 0 = true → u10 = mtv oneM
  f1 : L 1 = true → ∃ g, u11 = .slice (some ⟨g, 0, none⟩) 1 1 ∧ Sl W 1 (some ⟨g, 0, none⟩) 1 (strs [strA])
  f2 : L 2 = true → ∃ g, u12 = .slice (some ⟨g, 0, none⟩) 9 9 ∧ Sl W 1 (some ⟨g, 0, none⟩) 9 prc9
  f3 : L 3 = true → u13 = .string prog0
  f4 : L 4 = true → u14 = .agg #[.string strA, .string prog0]
  f5 : L 5 = true → ∃ g, u15 = .slice (some ⟨g, 0, none⟩) 1 1 ∧ Sl W 2 (some ⟨g, 0, none⟩) 1 (lecs [⟨strA, prog0⟩])
  f6 : L 6 = true → ∃ g1 g5, u16 = .agg (foC oneM (.slice (some ⟨g1, 0, none⟩) 1 1) (.slice (some ⟨g5, 0, none⟩) 1 1) (.slice none 0 0)).toArray ∧ Sl W 1 (some ⟨g1, 0, none⟩) 1 (strs [strA]) ∧ Sl W 2 (some ⟨g5, 0, none⟩) 1 (lecs [⟨strA, prog0⟩])
  f7 : L 7 = true → ∃ g, u1 = .pointer (some ⟨g, 0, none⟩) ∧ w.heap.size ≤ g ∧ BC W g foZK
theorem KnF.below {w : World} {L : Nat → Bool} {u1 u10 u11 u12 u13 u14 u15 u16 : Value} {W W' : World} (h : KnF w L u1 u10 u11 u12 u13 u14 u15 u16 W) (hb : Below W.heap.size W W') : KnF w L u1 u10 u11 u12 u13 u14 u15 u16 W' :=
  ⟨h.f0, fun h' => (h.f1 h').imp fun _ r => ⟨r.1, r.2.below hb⟩, fun h' => (h.f2 h').imp fun _ r => ⟨r.1, r.2.below hb⟩, h.f3, h.f4, fun h' => (h.f5 h').imp fun _ r => ⟨r.1, r.2.below hb⟩,
   fun h' => (h.f6 h').imp fun _ r => r.imp fun _ r => ⟨r.1, r.2.1.below hb, r.2.2.below hb⟩, fun h' => (h.f7 h').imp fun _ r => ⟨r.1, r.2.1, r.2.2.below hb⟩⟩
def KnI (w : World) (L : Nat → Bool) (a : Act) (W : World) : Prop := ∃ u1 u10 u11 u12 u13 u14 u15 u16, a = KnA u1 u10 u11 u12 u13 u14 u15 u16 ∧ Below w.heap.size w W ∧ (L 8 = false → KnF w L u1 u10 u11 u12 u13 u14 u15 u16 W) ∧
  (L 8 = true → (∀ j < 8, L j = true) ∧ ∃ g C, u1 = .pointer (some ⟨g, 0, none⟩) ∧ w.heap.size ≤ g ∧ FoAt W F0 C ∧ BC W g C)
set_option maxRecDepth 100000 in
set_option maxHeartbeats 4000000 in
theorem known41_any (w : World) : Calls Tryz.prog 5 #[] w fun e w' => e = .returned (.bool true) ∧ Below w.heap.size w w' := by
  go_enter Tryz.func5, Tryz.ntmps5
  go_upto_region 1 with (fail)
  refine wp_region_done (KnI w) (by kernel_rfl) ?_ ?_ ?_
  rotate_right
  · refine ⟨undef, undef, undef, undef, undef, undef, undef, undef, rfl, bdrew (Below.refl _ _), fun _ => ?_, fun h => by cases h⟩
    exact ⟨fun h => (by cases h), fun h => (by cases h), fun h => (by cases h), fun h => (by cases h), fun h => (by cases h), fun h => (by cases h), fun h => (by cases h), fun h => (by cases h)⟩
  · rintro L a W i o ho hLi hall ⟨u1, u10, u11, u12, u13, u14, u15, u16, rfl, hB, hF, hT⟩
    have hi9 : i < 9 := (Array.getElem?_eq_some_iff.1 ho).1
    have h8 : i ≠ 8 → L 8 = false := fun hne => by
      cases h : L 8
      · rfl
      · have := (hT h).1 i (by omega); rw [hLi] at this; cases this
    rcases (show i = 0 ∨ i = 1 ∨ i = 2 ∨ i = 3 ∨ i = 4 ∨ i = 5 ∨ i = 6 ∨ i = 7 ∨ i = 8 by omega) with rfl | rfl | rfl | rfl | rfl | rfl | rfl | rfl | rfl
    · obtain rfl := (Option.some.inj ho).symm
      have F := hF (h8 (by omega))
      refine inv_op rfl ?_
      intro K hK
      unfold KnA
      go_simp
      refine (matOne_any _).mono ?_; rintro e W' ⟨rfl, hb⟩
      refine hK.out _ _ ⟨u1, (mtv oneM), u11, u12, u13, u14, u15, u16, rfl, btr hB hb, fun _ => ?_, fun h => by have h2 := h8 (by omega); simp [h2] at h⟩
      have F' := F.below hb
      exact ⟨fun _ => rfl, fun h => F'.f1 (by simpa using h), fun h => F'.f2 (by simpa using h), fun h => F'.f3 (by simpa using h), fun h => F'.f4 (by simpa using h), fun h => F'.f5 (by simpa using h), fun h => F'.f6 (by simpa using h), fun h => F'.f7 (by simpa using h)⟩
    · obtain rfl := (Option.some.inj ho).symm
      have F := hF (h8 (by omega))
      refine inv_op rfl ?_
      intro K hK
      unfold KnA
      go_simp
      have hb := bal (Below.refl W.heap.size W) (.cells #[.string { data := #[97] }] 9)
      refine hK.out _ _ ⟨u1, u10, (.slice (some ⟨W.heap.size, 0, none⟩) 1 1), u12, u13, u14, u15, u16, rfl, btr hB hb, fun _ => ?_, fun h => by have h2 := h8 (by omega); simp [h2] at h⟩
      have F' := F.below hb
      exact ⟨fun h => F'.f0 (by simpa using h), fun _ => ⟨_, rfl, sl_new (strs [strA]) rfl rfl⟩, fun h => F'.f2 (by simpa using h), fun h => F'.f3 (by simpa using h), fun h => F'.f4 (by simpa using h), fun h => F'.f5 (by simpa using h), fun h => F'.f6 (by simpa using h), fun h => F'.f7 (by simpa using h)⟩
    · obtain rfl := (Option.some.inj ho).symm
      have F := hF (h8 (by omega))
      refine inv_op rfl ?_
      intro K hK
      unfold KnA
      go_simp
      have hb := bal (Below.refl W.heap.size W) (.cells prc9.toArray 5)
      refine hK.out _ _ ⟨u1, u10, u11, (.slice (some ⟨W.heap.size, 0, none⟩) 9 9), u13, u14, u15, u16, rfl, btr hB hb, fun _ => ?_, fun h => by have h2 := h8 (by omega); simp [h2] at h⟩
      have F' := F.below hb
      exact ⟨fun h => F'.f0 (by simpa using h), fun h => F'.f1 (by simpa using h), fun _ => ⟨_, rfl, sl_new prc9 rfl rfl⟩, fun h => F'.f3 (by simpa using h), fun h => F'.f4 (by simpa using h), fun h => F'.f5 (by simpa using h), fun h => F'.f6 (by simpa using h), fun h => F'.f7 (by simpa using h)⟩
    · have d2 := hF (h8 (by omega))
      obtain rfl := (Option.some.inj ho).symm
      obtain ⟨g, rfl, hs2⟩ := d2.f2 (hall ⟨2, .data⟩ (by simp) rfl)
      have hcv : (convert 62 9 (.slice (some ⟨g, 0, none⟩) 9 9)).run Tryz.prog W = .ok (.string prog0) W := sl_str (bs := [0, 149, 1, 139, 139, 2, 149, 5, 10]) hs2 (by omega)
      have F := hF (h8 (by omega))
      refine inv_op rfl ?_
      intro K hK
      unfold KnA
      go_simp
      have hb := Below.refl W.heap.size W
      refine hK.out _ _ ⟨u1, u10, u11, (.slice (some ⟨g, 0, none⟩) 9 9), (.string prog0), u14, u15, u16, rfl, btr hB hb, fun _ => ?_, fun h => by have h2 := h8 (by omega); simp [h2] at h⟩
      have F' := F.below hb
      exact ⟨fun h => F'.f0 (by simpa using h), fun h => F'.f1 (by simpa using h), fun h => F'.f2 (by simpa using h), fun _ => rfl, fun h => F'.f4 (by simpa using h), fun h => F'.f5 (by simpa using h), fun h => F'.f6 (by simpa using h), fun h => F'.f7 (by simpa using h)⟩
    · have d2 := hF (h8 (by omega))
      obtain rfl := (Option.some.inj ho).symm
      obtain rfl := d2.f3 (hall ⟨3, .data⟩ (by simp) rfl)
      have F := hF (h8 (by omega))
      refine inv_op rfl ?_
      intro K hK
      unfold KnA
      go_simp
      have hb := Below.refl W.heap.size W
      refine hK.out _ _ ⟨u1, u10, u11, u12, (.string prog0), (.agg #[.string strA, .string prog0]), u15, u16, rfl, btr hB hb, fun _ => ?_, fun h => by have h2 := h8 (by omega); simp [h2] at h⟩
      have F' := F.below hb
      exact ⟨fun h => F'.f0 (by simpa using h), fun h => F'.f1 (by simpa using h), fun h => F'.f2 (by simpa using h), fun h => F'.f3 (by simpa using h), fun _ => rfl, fun h => F'.f5 (by simpa using h), fun h => F'.f6 (by simpa using h), fun h => F'.f7 (by simpa using h)⟩
    · have d2 := hF (h8 (by omega))
      obtain rfl := (Option.some.inj ho).symm
      obtain rfl := d2.f4 (hall ⟨4, .data⟩ (by simp) rfl)
      have F := hF (h8 (by omega))
      refine inv_op rfl ?_
      intro K hK
      unfold KnA
      go_simp
      have hb := bal (Below.refl W.heap.size W) (.cells #[.string strA, .string prog0] 48)
      refine hK.out _ _ ⟨u1, u10, u11, u12, u13, (.agg #[.string strA, .string prog0]), (.slice (some ⟨W.heap.size, 0, none⟩) 1 1), u16, rfl, btr hB hb, fun _ => ?_, fun h => by have h2 := h8 (by omega); simp [h2] at h⟩
      have F' := F.below hb
      exact ⟨fun h => F'.f0 (by simpa using h), fun h => F'.f1 (by simpa using h), fun h => F'.f2 (by simpa using h), fun h => F'.f3 (by simpa using h), fun h => F'.f4 (by simpa using h), fun _ => ⟨_, rfl, sl_newN (lecs [⟨strA, prog0⟩]) rfl rfl⟩, fun h => F'.f6 (by simpa using h), fun h => F'.f7 (by simpa using h)⟩
    · have d2 := hF (h8 (by omega))
      obtain rfl := (Option.some.inj ho).symm
      obtain rfl := d2.f0 (hall ⟨0, .data⟩ (by simp) rfl)
      obtain ⟨g1, rfl, hs1⟩ := d2.f1 (hall ⟨1, .data⟩ (by simp) rfl)
      obtain ⟨g5, rfl, hs5⟩ := d2.f5 (hall ⟨5, .data⟩ (by simp) rfl)
      unfold mtv oneM
      have F := hF (h8 (by omega))
      refine inv_op rfl ?_
      intro K hK
      unfold KnA
      go_simp
      have hb := Below.refl W.heap.size W
      refine hK.out _ _ ⟨u1, (mtv oneM), (.slice (some ⟨g1, 0, none⟩) 1 1), u12, u13, u14, (.slice (some ⟨g5, 0, none⟩) 1 1), (.agg (foC oneM (.slice (some ⟨g1, 0, none⟩) 1 1) (.slice (some ⟨g5, 0, none⟩) 1 1) (.slice none 0 0)).toArray), rfl, btr hB hb, fun _ => ?_, fun h => by have h2 := h8 (by omega); simp [h2] at h⟩
      have F' := F.below hb
      exact ⟨fun h => F'.f0 (by simpa using h), fun h => F'.f1 (by simpa using h), fun h => F'.f2 (by simpa using h), fun h => F'.f3 (by simpa using h), fun h => F'.f4 (by simpa using h), fun h => F'.f5 (by simpa using h), fun _ => ⟨g1, g5, rfl, hs1, hs5⟩, fun h => F'.f7 (by simpa using h)⟩
    · obtain rfl := (Option.some.inj ho).symm
      have F := hF (h8 (by omega))
      refine inv_op rfl ?_
      intro K hK
      unfold KnA
      go_simp
      have hb := bal (Below.refl W.heap.size W) (.cells foZK.toArray 30)
      refine hK.out _ _ ⟨(.pointer (some ⟨W.heap.size, 0, none⟩)), u10, u11, u12, u13, u14, u15, u16, rfl, btr hB hb, fun _ => ?_, fun h => by have h2 := h8 (by omega); simp [h2] at h⟩
      have F' := F.below hb
      exact ⟨fun h => F'.f0 (by simpa using h), fun h => F'.f1 (by simpa using h), fun h => F'.f2 (by simpa using h), fun h => F'.f3 (by simpa using h), fun h => F'.f4 (by simpa using h), fun h => F'.f5 (by simpa using h), fun h => F'.f6 (by simpa using h), fun _ => ⟨_, rfl, hB.size, BC.new foZK 30 rfl⟩⟩
    · have F := hF hLi
      obtain rfl := (Option.some.inj ho).symm
      have a0 := hall ⟨0, .phase⟩ (by simp) rfl
      have a1 := hall ⟨1, .phase⟩ (by simp) rfl
      have a2 := hall ⟨2, .phase⟩ (by simp) rfl
      have a3 := hall ⟨3, .phase⟩ (by simp) rfl
      have a4 := hall ⟨4, .phase⟩ (by simp) rfl
      have a5 := hall ⟨5, .phase⟩ (by simp) rfl
      have a6 := hall ⟨6, .phase⟩ (by simp) rfl
      have a7 := hall ⟨7, .phase⟩ (by simp) rfl
      obtain ⟨g, rfl, hg, hZ⟩ := F.f7 a7
      obtain ⟨g1, g5, rfl, hs1, hs5⟩ := F.f6 a6
      have h1g : g1 ≠ g := fun e => by
        subst e
        have := Sl.first (xs := []) hs1 (by omega)
        rw [hZ.c 0 _ rfl] at this; cases this
      have h5g : g5 ≠ g := fun e => by
        subst e
        have := Sl.first (xs := [.string prog0]) hs5 (by omega)
        rw [hZ.c 0 _ rfl] at this; cases this
      obtain ⟨C, hC⟩ : ∃ C, C = foC oneM (.slice (some ⟨g1, 0, none⟩) 1 1) (.slice (some ⟨g5, 0, none⟩) 1 1) (.slice none 0 0) := ⟨_, rfl⟩
      have hC9 : C.length = 9 := by rw [hC]; rfl
      have h1c : ∀ v ∈ C, v.oneCell' = true := by rw [hC]; intro v hv; simp only [foC, oneM, List.mem_cons, List.not_mem_nil, or_false] at hv; rcases hv with rfl | rfl | rfl | rfl | rfl | rfl | rfl | rfl | rfl <;> rfl
      have hFo : FoAt (W.setCells g 0 C) F0 C := ⟨kn_ok, some ⟨g1, 0, none⟩, some ⟨g5, 0, none⟩, none, 1, 1, 0, hC, hs1.apartN h1g C, hs5.apartN h5g C, Sl.nil_⟩
      rw [← hC]
      refine inv_op rfl ?_
      intro K hK
      rw [if_pos (by rfl)]
      refine wp_store_mid 30 _ _ rfl g 0 C.toArray rfl rfl ?_ ?_ (all_oneCell_toArray h1c) ?_
      · have := hZ.there; rw [List.size_toArray, hC9]; exact this
      · rw [List.size_toArray, hC9]; kernel_rfl
      refine hK.out _ _ ⟨.pointer (some ⟨g, 0, none⟩), u10, u11, u12, u13, u14, u15, .agg C.toArray, rfl, below_setCells hg _ _ _ hB, fun h => ?_, fun _ => ⟨fun j hj => ?_, g, C, rfl, hg, hFo, ?_⟩⟩
      · simp at h
      · rcases (show j = 0 ∨ j = 1 ∨ j = 2 ∨ j = 3 ∨ j = 4 ∨ j = 5 ∨ j = 6 ∨ j = 7 by omega) with rfl | rfl | rfl | rfl | rfl | rfl | rfl | rfl <;> simp [a0, a1, a2, a3, a4, a5, a6, a7]
      · exact hZ.putAll C (by rw [hC9]; rfl)
  · rintro L a W hall ⟨u1, u10, u11, u12, u13, u14, u15, u16, rfl, hB, hF, hT⟩
    have k0 := hall 0 _ rfl (by simp)
    have k1 := hall 1 _ rfl (by simp)
    have k2 := hall 2 _ rfl (by simp)
    have k3 := hall 3 _ rfl (by simp [k2])
    have k4 := hall 4 _ rfl (by simp [k3])
    have k5 := hall 5 _ rfl (by simp [k4])
    have k6 := hall 6 _ rfl (by simp [k0, k1, k5])
    have k7 := hall 7 _ rfl (by simp)
    have k8 := hall 8 _ rfl (by simp [k0, k1, k2, k3, k4, k5, k6, k7])
    obtain ⟨-, g, C, rfl, hg, hFo, hC⟩ := hT k8
    clear hall k0 k1 k2 k3 k4 k5 k6 k7 k8 hT hF
    have h9 := hFo.len
    have hz : ({ data := #[] } : ByteArray).size ≤ 1000000 := by decide
    unfold KnA
    go_upto_region 2 with (fail)
    have HA := Lib.hid fun (V : World) (hW : ∃ y : Grown W, V = y.world) => (show BC V g C by obtain ⟨y, rfl⟩ := hW; exact hC.below y.below)
    refine wp_region_ord (fun V => ∃ y : Grown W, V = y.world) [] 12 (by kernel_rfl) (by kernel_rfl) ⟨⟨_, bdrew (Below.refl _ _)⟩, rfl⟩ ?_
    intro hS
    refine ord_take 0 rfl rfl (by kernel_rfl) (by kernel_rfl) (fun _ _ _ h => h) (yieldsIf_rec (by rfl) _ _ rfl _ rfl _ 9 foT HA.out h9) hS ?_
    simp only [Act.put, List.setIfInBounds_toArray, List.set_cons_zero, List.set_cons_succ]
    have HG := Lib.hid (fun (V : World) (hW : Below W.heap.size W V) => (⟨⟨V, hW⟩, rfl⟩ : ∃ y : Grown W, V = y.world))
    have HB := bdrew (Below.refl W.heap.size W)
    clear hS
    refine ord_one 1 rfl (by kernel_rfl) rfl ?_
    intro K hK
    go_simp
    refine (matOne_any _).mono ?_; rintro e wn ⟨rfl, hbn⟩
    have Hn := btr HB hbn
    refine hK.out _ _ (HG.out _ Hn) ?_
    clear hK K HB hbn
    have HB := Hn
    clear Hn
    try simp only
    have hS := HG.out _ HB
    clear hS
    refine ord_one 2 rfl (by kernel_rfl) rfl ?_
    intro K hK
    go_simp
    refine (outline_any F0 C oneM 0 0 { data := #[] } (([], 0, 0), 0) _ hz (hFo.below HB) kn_out).mono ?_; rintro e w3 ⟨b3, A3, c3, rfl, -⟩
    have Q3 := btr HB b3
    refine hK.out _ _ (HG.out _ Q3) ?_
    clear hK K b3 HB
    try simp only
    have hS := HG.out _ Q3
    refine ord_take (v := ?_) 3 rfl rfl (by kernel_rfl) (by kernel_rfl) (fun _ _ _ h => h) (Or.inl ⟨by rfl, ?_⟩) hS ?_
    rotate_left
    · rintro W ⟨y, rfl⟩
      go_simp
      (try with_reducible rfl)
    simp only [Act.put, List.setIfInBounds_toArray, List.set_cons_zero, List.set_cons_succ]
    refine ord_take (v := ?_) 4 rfl rfl (by kernel_rfl) (by kernel_rfl) (fun _ _ _ h => h) (Or.inl ⟨by rfl, ?_⟩) hS ?_
    rotate_left
    · rintro W ⟨y, rfl⟩
      go_simp
      (try with_reducible rfl)
    simp only [Act.put, List.setIfInBounds_toArray, List.set_cons_zero, List.set_cons_succ]
    refine ord_take (v := ?_) 5 rfl rfl (by kernel_rfl) (by kernel_rfl) (fun _ _ _ h => h) (Or.inl ⟨by rfl, ?_⟩) hS ?_
    rotate_left
    · rintro W ⟨y, rfl⟩
      go_simp
      (try with_reducible rfl)
    simp only [Act.put, List.setIfInBounds_toArray, List.set_cons_zero, List.set_cons_succ]
    refine ord_take (v := ?_) 6 rfl rfl (by kernel_rfl) (by kernel_rfl) (fun _ _ _ h => h) (Or.inl ⟨by rfl, ?_⟩) hS ?_
    rotate_left
    · rintro W ⟨y, rfl⟩
      go_simp
      (try with_reducible rfl)
    simp only [Act.put, List.setIfInBounds_toArray, List.set_cons_zero, List.set_cons_succ]
    refine ord_take (v := ?_) 7 rfl rfl (by kernel_rfl) (by kernel_rfl) (fun _ _ _ h => h) (Or.inl ⟨by rfl, ?_⟩) hS ?_
    rotate_left
    · rintro W ⟨y, rfl⟩
      go_simp
      (try with_reducible rfl)
    simp only [Act.put, List.setIfInBounds_toArray, List.set_cons_zero, List.set_cons_succ]
    refine ord_take (v := ?_) 8 rfl rfl (by kernel_rfl) (by kernel_rfl) (fun _ _ _ h => h) (Or.inl ⟨by rfl, ?_⟩) hS ?_
    rotate_left
    · rintro W ⟨y, rfl⟩
      go_simp
      (try with_reducible rfl)
    simp only [Act.put, List.setIfInBounds_toArray, List.set_cons_zero, List.set_cons_succ]
    refine ord_take (v := ?_) 9 rfl rfl (by kernel_rfl) (by kernel_rfl) (fun _ _ _ h => h) (Or.inl ⟨by rfl, ?_⟩) hS ?_
    rotate_left
    · rintro W ⟨y, rfl⟩
      go_simp
      (try with_reducible rfl)
    simp only [Act.put, List.setIfInBounds_toArray, List.set_cons_zero, List.set_cons_succ]
    refine ord_take (v := ?_) 10 rfl rfl (by kernel_rfl) (by kernel_rfl) (fun _ _ _ h => h) (Or.inl ⟨by rfl, ?_⟩) hS ?_
    rotate_left
    · rintro W ⟨y, rfl⟩
      go_simp
      (try with_reducible rfl)
    simp only [Act.put, List.setIfInBounds_toArray, List.set_cons_zero, List.set_cons_succ]
    refine ord_take (v := ?_) 11 rfl rfl (by kernel_rfl) (by kernel_rfl) (fun _ _ _ h => h) (Or.inl ⟨by rfl, ?_⟩) hS ?_
    rotate_left
    · rintro W ⟨y, rfl⟩
      go_simp
      (try with_reducible rfl)
    simp only [Act.put, List.setIfInBounds_toArray, List.set_cons_zero, List.set_cons_succ]
    clear hS HG HA
    refine ⟨by kernel_rfl, ?_⟩
    refine NoPanic.normal ?_
    have hC3 := hC.below Q3
    have hF3 := hFo.below Q3
    have HWd := Lib.hid (fontWide_any F0 C 0 w3 (by omega) hF3)
    rw [kn_wide] at HWd
    go_wp2_with (first
      | (refine wpList_load_rec rfl _ _ rfl g rfl _ 9 foT hC3 h9 ?_)
      | fail)
    refine HWd.out.mono ?_; rintro e w4 ⟨rfl, b4⟩
    have Q4 := btr Q3 b4
    clear hC3 hF3 HWd b4
    go_upto_region 4 with (fail)
    have HA := Lib.hid fun (V : World) (hW : ∃ y : Grown w4, V = y.world) => (show BC V g C by obtain ⟨y, rfl⟩ := hW; exact (hC.below Q4).below y.below)
    refine wp_region_ord (fun V => ∃ y : Grown w4, V = y.world) [] 8 (by kernel_rfl) (by kernel_rfl) ⟨⟨_, bdrew (Below.refl _ _)⟩, rfl⟩ ?_
    intro hS
    refine ord_take 0 rfl rfl (by kernel_rfl) (by kernel_rfl) (fun _ _ _ h => h) (yieldsIf_rec (by rfl) _ _ rfl _ rfl _ 9 foT HA.out h9) hS ?_
    simp only [Act.put, List.setIfInBounds_toArray, List.set_cons_zero, List.set_cons_succ]
    have HG := Lib.hid (fun (V : World) (hW : Below w4.heap.size w4 V) => (⟨⟨V, hW⟩, rfl⟩ : ∃ y : Grown w4, V = y.world))
    have HB := bdrew (Below.refl w4.heap.size w4)
    clear hS
    refine ord_one 1 rfl (by kernel_rfl) rfl ?_
    intro K hK
    go_simp
    refine (matOne_any _).mono ?_; rintro e wn ⟨rfl, hbn⟩
    have Hn := btr HB hbn
    refine hK.out _ _ (HG.out _ Hn) ?_
    clear hK K HB hbn
    have HB := Hn
    clear Hn
    try simp only
    have hS := HG.out _ HB
    clear hS
    refine ord_one 2 rfl (by kernel_rfl) rfl ?_
    intro K hK
    go_simp
    refine (fontPath_any F0 C oneM 0 0 0 (L0, 0) _ (by omega) (hFo.below (btr Q4 HB)) kn_path).mono ?_; rintro e w5 ⟨b5, A5, c5, rfl, hs5⟩
    have Q5 := btr HB b5
    refine hK.out _ _ (HG.out _ Q5) ?_
    clear hK K b5 HB
    try simp only
    have hS := HG.out _ Q5
    refine ord_take (v := ?_) 3 rfl rfl (by kernel_rfl) (by kernel_rfl) (fun _ _ _ h => h) (Or.inl ⟨by rfl, ?_⟩) hS ?_
    rotate_left
    · rintro W ⟨y, rfl⟩
      go_simp
      (try with_reducible rfl)
    simp only [Act.put, List.setIfInBounds_toArray, List.set_cons_zero, List.set_cons_succ]
    refine ord_take (v := ?_) 4 rfl rfl (by kernel_rfl) (by kernel_rfl) (fun _ _ _ h => h) (Or.inl ⟨by rfl, ?_⟩) hS ?_
    rotate_left
    · rintro W ⟨y, rfl⟩
      go_simp
      (try with_reducible rfl)
    simp only [Act.put, List.setIfInBounds_toArray, List.set_cons_zero, List.set_cons_succ]
    refine ord_take (v := ?_) 5 rfl rfl (by kernel_rfl) (by kernel_rfl) (fun _ _ _ h => h) (Or.inl ⟨by rfl, ?_⟩) hS ?_
    rotate_left
    · rintro W ⟨y, rfl⟩
      go_simp
      (try with_reducible rfl)
    simp only [Act.put, List.setIfInBounds_toArray, List.set_cons_zero, List.set_cons_succ]
    refine ord_take (v := ?_) 6 rfl rfl (by kernel_rfl) (by kernel_rfl) (fun _ _ _ h => h) (Or.inl ⟨by rfl, ?_⟩) hS ?_
    rotate_left
    · rintro W ⟨y, rfl⟩
      go_simp
      (try with_reducible rfl)
    simp only [Act.put, List.setIfInBounds_toArray, List.set_cons_zero, List.set_cons_succ]
    refine ord_take (v := ?_) 7 rfl rfl (by kernel_rfl) (by kernel_rfl) (fun _ _ _ h => h) (Or.inl ⟨by rfl, ?_⟩) hS ?_
    rotate_left
    · rintro W ⟨y, rfl⟩
      go_simp
      (try with_reducible rfl)
    simp only [Act.put, List.setIfInBounds_toArray, List.set_cons_zero, List.set_cons_succ]
    clear hS HG HA
    refine ⟨by kernel_rfl, ?_⟩
    refine NoPanic.normal ?_
    have G5 := btr Q4 Q5
    have hC5 := hC.below G5
    have HM := Lib.hid (fontMay_any F0 C w5 (hFo.below G5))
    rw [kn_open] at HM
    have hl2 : L0.length = 2 := rfl
    rw [hl2] at hs5 ⊢
    clear hl2 Q3 Q4 Q5
    go_wp2_with (first
      | (refine wpList_load_rec_g2 (by rfl) _ _ rfl g rfl _ 9 foT hC5 h9 ?_)
      | fail)
    refine HM.out.mono ?_; rintro e w6 ⟨rfl, b6⟩
    have G6 := btr G5 b6
    have hs6 := hs5.below b6
    clear hC5 HM b6 hs5
    go_wp2_with fail
    refine (sameSg_any _ _ 2 2 _ _ L0 _ (by omega) (hs6.below (bal (Below.refl _ _) _)) (sl_newN (sgs L0) rfl rfl)).mono ?_; rintro e w7 ⟨rfl, q7, rfl⟩
    go_wp2_with fail
    go_ret
    exact ⟨rfl, btr hB (bdrewN (bal G6 _) _)⟩
end Go.Proofs.YtaphmonpdnbiiaaGreat
