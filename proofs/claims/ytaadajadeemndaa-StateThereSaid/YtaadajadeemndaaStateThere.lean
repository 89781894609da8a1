/- StateThere: the walk. -/
import Derived.Test.YtaadajadeemndaaHelpState
import Derived.Test.YtaadajadeemndaaKnown42
namespace Go.Proofs.Ytaadajadeemndaa
open Go.RowKit Go.BigFrame

theorem zero_few : stFew zeroS := ⟨Nat.zero_le _, Nat.zero_le _, (fun _ h => by cases h), Nat.zero_le _⟩
theorem toS_few {F : Int → Int → List Sg × Int} (hF : ∀ a b, (F a b).1.length ≤ 300) {x : St} {u v : Int} {d : Bool} (hx : stFew x) : stFew (toS F x u v d).1 := by
  unfold toS
  split
  · exact zero_few
  · split
    · exact zero_few
    · split
      · exact zero_few
      · exact ⟨Nat.le_trans (hF _ _) (by omega), hx.2.1, hx.2.2.1, hx.2.2.2⟩
theorem new_few (h : Int) : stFew (newS h) := ⟨Nat.zero_le _, Nat.zero_le _, (fun _ h => by cases h), Nat.zero_le _⟩
set_option maxRecDepth 100000 in
set_option maxHeartbeats 8000000 in
theorem StateThere_any (k x0 y0 dx dy : Int) (w : World) (h0 : 0 ≤ k ∧ k ≤ 255) (h1 : -32768 ≤ x0 ∧ x0 ≤ 32767) (h2 : -32768 ≤ y0 ∧ y0 ≤ 32767) (h3 : -32768 ≤ dx ∧ dx ≤ 32767) (h4 : -32768 ≤ dy ∧ dy ≤ 32767) :
    Calls Try.prog 5 #[.int .u8 k, .int .i16 x0, .int .i16 y0, .int .i16 dx, .int .i16 dy] w fun e w' => e = .returned (.bool true) ∧ Below w.heap.size w w' := by
  obtain ⟨gx, hgx⟩ : ∃ g, x0.tmod 200 = g := ⟨_, rfl⟩
  obtain ⟨gy, hgy⟩ : ∃ g, y0.tmod 200 = g := ⟨_, rfl⟩
  obtain ⟨ex, hex⟩ : ∃ g, dx.tmod 200 = g := ⟨_, rfl⟩
  obtain ⟨ey, hey⟩ : ∃ g, dy.tmod 200 = g := ⟨_, rfl⟩
  have tb : ∀ z : Int, -200 ≤ z.tmod 200 ∧ z.tmod 200 ≤ 200 := fun z => by
    have h2 : (z.tmod 200).natAbs = z.natAbs % 200 := Int.natAbs_tmod z 200
    omega
  have k1 := tb x0
  have k2 := tb y0
  have k3 := tb dx
  have k4 := tb dy
  rw [hgx] at k1
  rw [hgy] at k2
  rw [hex] at k3
  rw [hey] at k4
  obtain ⟨x, t, m, Y, u, v, hx, ht, hu, u1, u2, hm, hy1, hy2⟩ := th_all (1 + k % 64) (x0 * 64) (y0 * 64) (gx * 65536) (gy * 65536) (ex * 65536) (ey * 65536) (by omega) (by omega) (by omega) (by omega) gx gy ex ey (by omega) (by omega) (by omega) (by omega) k1 k2 k3 k4
  have fx : stFew x := by rw [← hx]; exact new_few _
  have fm : stFew m := by have := toS_few (F := fun a b => startL x.p a b) (fun _ _ => startL_le _ _ _) (u := gx * 65536) (v := gy * 65536) (d := false) fx; rw [hm] at this; exact this
  have fy : stFew Y.1 := by have := toS_few (F := fun a b => onL m.p ⟨2, a, b, 0, 0⟩) (fun _ _ => onL_le _ _) (u := ex * 65536) (v := ey * 65536) (d := true) fm; rw [hy1] at this; exact this
  have HN := Lib.hid fun W => stNew_any (1 + k % 64) W (by omega) (by omega)
  have hat : ∀ W, StAt W x (.slice none 0 0) (.slice none 0 0) (.slice none 0 0) := fun W => by rw [← hx]; exact ⟨PathV.nil, ClV.nil, IntsV.nil⟩
  rw [hx] at HN
  have hone1 : ∀ v ∈ stC x (.slice none 0 0) (.slice none 0 0) (.slice none 0 0), v.oneCell' = true := stC_one rfl rfl rfl
  have HM1 := Lib.hid fun W => stMove_any x (.slice none 0 0) (.slice none 0 0) (.slice none 0 0) (x0 * 64) (y0 * 64) false (t, 0) W (hat W) ht
  have HM2 := Lib.hid fun W => stMove_any x (.slice none 0 0) (.slice none 0 0) (.slice none 0 0) (gx * 65536) (gy * 65536) false (m, 0) W (hat W) hm
  have HH := Lib.hid fun (P C D : Value) W (h : StAt W t P C D) => stHere_any t P C D (u, v, 0) W h hu
  have HL1 := Lib.hid fun (P C D : Value) W (h : StAt W m P C D) => stLine_any m P C D (ex * 65536) (ey * 65536) true Y W h hy1
  have HL2 := Lib.hid fun (P C D : Value) W (h : StAt W m P C D) => stLine_any m P C D (gx * 65536 + ex * 65536) (gy * 65536 + ey * 65536) false Y W h hy2
  obtain ⟨y, e⟩ := Y
  have HFY := Lib.hid fy
  simp only at HM1 HM2 HL1 HL2 HFY
  unfold vP at HH
  simp only at HH
  clear hx ht hu hm hy1 hy2 fx fm fy hat tb
  go_enter Try.func5, Try.ntmps5
  go_wp2_with fail
  refine (known42_any _).mono ?_; rintro e w1 ⟨rfl, B1⟩
  go_wp2_with fail
  refine (HN.out _).mono ?_; rintro e w2 ⟨rfl, hb2⟩
  have B2 := btr B1 hb2
  obtain ⟨w3, hw3, A3, b3, Z3⟩ := put_new (W := w2) (vs := stC x (.slice none 0 0) (.slice none 0 0) (.slice none 0 0)) rfl
  have B3 := btr B2 b3
  rw [zero_lit] at hw3 Z3
  have HW3 := Lib.hid hw3
  clear hw3
  go_wp2_with (first
    | (refine wpList_store_rec rfl _ _ _ rfl (w2.heap.size) (stC x (.slice none 0 0) (.slice none 0 0) (.slice none 0 0)) _ rfl rfl 24 stT Z3 rfl rfl hone1 ?_; rw [← HW3.out])
    | (refine wpList_load_rec rfl _ _ rfl w2.heap.size rfl _ 24 stT A3 rfl ?_)
    | fail)
  refine (HM1.out _).mono ?_; rintro e w4 ⟨P4, C4, D4, rfl, ho4, hb4⟩
  have B4 := btr B3 hb4
  have A4' := A3.below hb4
  have s4 := ho4.at
  have hone4 := s4.one
  clear hb4 ho4 b3 A3
  obtain ⟨w5, hw5, A5, b5, Z5⟩ := put_new (W := w4) (vs := stC t P4 C4 D4) rfl
  have B5 := btr B4 b5
  rw [zero_lit] at hw5 Z5
  have HW5 := Lib.hid hw5
  clear hw5
  have A5' := A4'.below b5
  have s5 := s4.below b5
  clear A4' s4
  go_wp2_with (first
    | (refine wpList_store_rec rfl _ _ _ rfl (w4.heap.size) (stC t P4 C4 D4) _ rfl rfl 24 stT Z5 rfl rfl hone4 ?_; rw [← HW5.out])
    | (refine wpList_load_rec rfl _ _ rfl w4.heap.size rfl _ 24 stT A5 rfl ?_)
    | fail)
  refine (HH.out P4 C4 D4 _ s5).mono ?_; rintro e w6 ⟨rfl, hb6⟩
  have B6 := btr B5 hb6
  have A6' := A5'.below hb6
  clear A5 A5' s5 b5 hb6
  go_wp2_with (first
    | (refine wpList_load_rec rfl _ _ rfl w2.heap.size rfl _ 24 stT A6' rfl ?_)
    | fail)
  refine (HM2.out _).mono ?_; rintro e w7 ⟨P7, C7, D7, rfl, ho7, hb7⟩
  have B7 := btr B6 hb7
  have s7 := ho7.at
  have hone7 := s7.one
  clear A6' hb7 ho7 u1 u2
  obtain ⟨w8, hw8, A8, b8, Z8⟩ := put_new (W := w7) (vs := stC m P7 C7 D7) rfl
  have B8 := btr B7 b8
  rw [zero_lit] at hw8 Z8
  have HW8 := Lib.hid hw8
  clear hw8
  have s8 := s7.below b8
  clear s7
  go_wp2_with (first
    | (refine wpList_store_rec rfl _ _ _ rfl (w7.heap.size) (stC m P7 C7 D7) _ rfl rfl 24 stT Z8 rfl rfl hone7 ?_; rw [← HW8.out])
    | (refine wpList_load_rec rfl _ _ rfl w7.heap.size rfl _ 24 stT A8 rfl ?_)
    | fail)
  refine (HL1.out P7 C7 D7 _ s8).mono ?_; rintro e w9 ⟨P9, C9, D9, rfl, ho9, hb9⟩
  have B9 := btr B8 hb9
  have A9' := A8.below hb9
  have s9 := ho9.at
  have t9 := s8.below hb9
  have hone9 := s9.one
  clear A8 s8 b8 hb9 ho9
  obtain ⟨w10, hw10, A10, b10, Z10⟩ := put_new (W := w9) (vs := stC y P9 C9 D9) rfl
  have B10 := btr B9 b10
  rw [zero_lit] at hw10 Z10
  have HW10 := Lib.hid hw10
  clear hw10
  have A10' := A9'.below b10
  have s10 := s9.below b10
  have t10 := t9.below b10
  clear A9' s9 t9
  go_wp2_with (first
    | (refine wpList_store_rec rfl _ _ _ rfl (w9.heap.size) (stC y P9 C9 D9) _ rfl rfl 24 stT Z10 rfl rfl hone9 ?_; rw [← HW10.out])
    | (refine wpList_load_rec rfl _ _ rfl w7.heap.size rfl _ 24 stT A10' rfl ?_)
    | fail)
  refine (HL2.out P7 C7 D7 _ t10).mono ?_; rintro e w11 ⟨P11, C11, D11, rfl, ho11, hb11⟩
  have B11 := btr B10 hb11
  have A11' := A10.below hb11
  have s11 := ho11.at
  have t11 := s10.below hb11
  have hone11 := s11.one
  clear A10 A10' s10 t10 b10 hb11 ho11
  obtain ⟨w12, hw12, A12, b12, Z12⟩ := put_new (W := w11) (vs := stC y P11 C11 D11) rfl
  have B12 := btr B11 b12
  rw [zero_lit] at hw12 Z12
  have HW12 := Lib.hid hw12
  clear hw12
  have A12' := A11'.below b12
  have s12 := s11.below b12
  have t12 := t11.below b12
  clear A11' s11 t11
  go_wp2_with (first
    | (refine wpList_store_rec rfl _ _ _ rfl (w11.heap.size) (stC y P11 C11 D11) _ rfl rfl 24 stT Z12 rfl rfl hone11 ?_; rw [← HW12.out])
    | (refine wpList_load_rec_g (by kernel_rfl) _ _ rfl w9.heap.size rfl _ 24 stT A12' rfl ?_)
    | (refine wpList_load_rec_g (by kernel_rfl) _ _ rfl w11.heap.size rfl _ 24 stT A12 rfl ?_)
    | fail)
  refine (helpState_any y P9 C9 D9 P11 C11 D11 _ t12 s12 HFY.out).mono ?_; rintro e w13 ⟨rfl, hb13⟩
  go_wp2_with fail
  go_ret
  exact ⟨rfl, btr B12 hb13⟩
end Go.Proofs.Ytaadajadeemndaa
