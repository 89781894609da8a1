/- StateShifts: the walk. -/
import Derived.Test.YtaadajadeemndaaKnown42
import Derived.Test.YtaadajadeemndaaSame
namespace Go.Proofs.Ytaadajadeemndaa
open Go.RowKit Go.BigFrame

theorem toS_len {F : Int → Int → List Sg × Int} (hF : ∀ a b, (F a b).1.length ≤ 300) {x : St} {u v : Int} {d : Bool} : (toS F x u v d).1.p.length ≤ 300 := by
  unfold toS
  split
  · exact Nat.zero_le _
  · split
    · exact Nat.zero_le _
    · split
      · exact Nat.zero_le _
      · exact hF _ _
theorem sh_all (a b c d : Int) (ha : -1048576 ≤ a ∧ a ≤ 1048576) (hb : -1048576 ≤ b ∧ b ≤ 1048576) (hc : -1048576 ≤ c ∧ c ≤ 1048576) (hd : -1048576 ≤ d ∧ d ≤ 1048576) :
    ∃ x x2 Y1 Y2, newS 20 = x ∧ mtB ⟨65536, 0, 0, 65536, a, b⟩ = true ∧ concatS x ⟨65536, 0, 0, 65536, a, b⟩ = (x2, 0) ∧ toS (fun u v => startL x2.p u v) x2 c d false = Y1 ∧ toS (fun u v => startL x.p u v) x (a + c) (b + d) false = Y2 ∧ Y1.2 = Y2.2 ∧ Y1.1.p = Y2.1.p ∧ Y2.1.p.length ≤ 300 := by
  refine ⟨newS 20, { newS 20 with m := shM a b }, _, _, rfl, ?_, ?_, rfl, rfl, (sh_to a b c d ha hb hc hd).1, (sh_to a b c d ha hb hc hd).2, toS_len (fun _ _ => startL_le _ _ _)⟩
  · unfold mtB
    simp only [Bool.and_eq_true]
    exact ⟨⟨⟨⟨⟨fixB_of (by omega), fixB_of (by omega)⟩, fixB_of (by omega)⟩, fixB_of (by omega)⟩, fixB_of (by omega)⟩, fixB_of (by omega)⟩
  · have h1 : mayS (newS 20) = true := sh_may 0 0 (by omega) (by omega)
    have h2 := sh_mul a b (by omega) (by omega)
    have h3 : mulM ⟨65536, 0, 0, 65536, a, b⟩ (newS 20).m = (shM a b, 0) := h2
    unfold concatS
    rw [h1, h3]
    rfl
set_option maxRecDepth 100000 in
set_option maxHeartbeats 4000000 in
theorem StateShifts_any (tx ty x0 y0 : Int) (w : World) (h1 : -32768 ≤ tx ∧ tx ≤ 32767) (h2 : -32768 ≤ ty ∧ ty ≤ 32767) (h3 : -32768 ≤ x0 ∧ x0 ≤ 32767) (h4 : -32768 ≤ y0 ∧ y0 ≤ 32767) :
    Calls Try.prog 3 #[.int .i16 tx, .int .i16 ty, .int .i16 x0, .int .i16 y0] w fun e w' => e = .returned (.bool true) ∧ Below w.heap.size w w' := by
  obtain ⟨x, x2, Y1, Y2, hx, hmt, hcon, hY1, hY2, hYe, hYp, hYl⟩ := sh_all (tx * 32) (ty * 32) (x0 * 32) (y0 * 32) (by omega) (by omega) (by omega) (by omega)
  have HN := Lib.hid fun W => stNew_any 20 W (by omega) (by omega)
  have hat : ∀ W, StAt W x (.slice none 0 0) (.slice none 0 0) (.slice none 0 0) := fun W => by rw [← hx]; exact ⟨PathV.nil, ClV.nil, IntsV.nil⟩
  rw [hx] at HN
  have hone1 : ∀ v ∈ stC x (.slice none 0 0) (.slice none 0 0) (.slice none 0 0), v.oneCell' = true := stC_one rfl rfl rfl
  have HC := Lib.hid fun W => stConcat_any x (.slice none 0 0) (.slice none 0 0) (.slice none 0 0) ⟨65536, 0, 0, 65536, tx * 32, ty * 32⟩ (x2, 0) W (hat W) hmt hcon
  unfold mtv at HC
  simp only at HC
  have HM2 := Lib.hid fun W => stMove_any x (.slice none 0 0) (.slice none 0 0) (.slice none 0 0) (tx * 32 + x0 * 32) (ty * 32 + y0 * 32) false Y2 W (hat W) hY2
  have HM1 := Lib.hid fun (P C D : Value) W (h : StAt W x2 P C D) => stMove_any x2 P C D (x0 * 32) (y0 * 32) false Y1 W h hY1
  obtain ⟨y1, e1⟩ := Y1
  obtain ⟨y2, e2⟩ := Y2
  simp only at hYe hYp HM1 HM2 hYl
  subst hYe
  have HYP := Lib.hid hYp
  clear hx hmt hcon hY1 hY2 hat hYp
  go_enter Try.func3, Try.ntmps3
  go_wp2_with fail
  refine (known42_any _).mono ?_; rintro e w1 ⟨rfl, B1⟩
  go_wp2_with fail
  refine (HN.out _).mono ?_; rintro e w2 ⟨rfl, hb2⟩
  have B2 := btr B1 hb2
  obtain ⟨w3, hw3, A3, b3, Z3⟩ := put_new (W := w2) (vs := stC x (.slice none 0 0) (.slice none 0 0) (.slice none 0 0)) rfl
  have B3 := btr B2 b3
  rw [zero_lit] at hw3 Z3
  have HW3 := Lib.hid hw3
  clear hw3
  obtain ⟨w4, hw4⟩ : ∃ w4, w4 = w3.alloc (.cells #[.int .i64 65536, .int .i64 0, .int .i64 0, .int .i64 65536, .int .i64 (tx * 32), .int .i64 (ty * 32)] 25) := ⟨_, rfl⟩
  have b4 : Below w3.heap.size w3 w4 := by rw [hw4]; exact bal (Below.refl _ _) _
  have M4 : BC w4 w3.heap.size (mtC ⟨65536, 0, 0, 65536, tx * 32, ty * 32⟩) := by rw [hw4]; exact BC.new (mtC ⟨65536, 0, 0, 65536, tx * 32, ty * 32⟩) 25 rfl
  have A4 := A3.below b4
  have B4 := btr B3 b4
  have HW4 := Lib.hid hw4
  have n0 := M4.c 0 _ rfl
  have n1 := M4.c 1 _ rfl
  have n2 := M4.c 2 _ rfl
  have n3 := M4.c 3 _ rfl
  have n4 := M4.c 4 _ rfl
  have n5 := M4.c 5 _ rfl
  clear hw4
  go_wp2_with (first
    | (refine wpList_store_rec rfl _ _ _ rfl (w2.heap.size) (stC x (.slice none 0 0) (.slice none 0 0) (.slice none 0 0)) _ rfl rfl 24 stT Z3 rfl rfl hone1 ?_; rw [← HW3.out])
    | (rw [← HW4.out]; refine wpList_load_rec rfl _ _ rfl w2.heap.size rfl _ 24 stT A4 rfl ?_)
    | fail)
  refine (HC.out _).mono ?_; rintro e w5 ⟨P5, C5, D5, rfl, ho5, hb5⟩
  have B5 := btr B4 hb5
  have A5 := A4.below hb5
  have s5 := ho5.at
  have hone5 := s5.one
  clear n0 n1 n2 n3 n4 n5 M4 A3 b3 hb5 ho5
  obtain ⟨w6, hw6, A6, b6, Z6⟩ := put_new (W := w5) (vs := stC x2 P5 C5 D5) rfl
  have B6 := btr B5 b6
  rw [zero_lit] at hw6 Z6
  have HW6 := Lib.hid hw6
  clear hw6
  have A6' := A5.below b6
  have s6 := s5.below b6
  go_wp2_with (first
    | (refine wpList_store_rec rfl _ _ _ rfl (w5.heap.size) (stC x2 P5 C5 D5) _ rfl rfl 24 stT Z6 rfl rfl hone5 ?_; rw [← HW6.out])
    | (refine wpList_load_rec rfl _ _ rfl w5.heap.size rfl _ 24 stT A6 rfl ?_)
    | fail)
  refine (HM1.out P5 C5 D5 _ s6).mono ?_; rintro e w7 ⟨P7, C7, D7, rfl, ho7, hb7⟩
  have B7 := btr B6 hb7
  have A7' := A6'.below hb7
  have s7 := ho7.at
  have hone7 := s7.one
  clear A6 A5 s5 s6 b6 hb7 ho7
  obtain ⟨w8, hw8, A8, b8, Z8⟩ := put_new (W := w7) (vs := stC y1 P7 C7 D7) rfl
  have B8 := btr B7 b8
  rw [zero_lit] at hw8 Z8
  have HW8 := Lib.hid hw8
  clear hw8
  have A8' := A7'.below b8
  have s8 := s7.below b8
  go_wp2_with (first
    | (refine wpList_store_rec rfl _ _ _ rfl (w7.heap.size) (stC y1 P7 C7 D7) _ rfl rfl 24 stT Z8 rfl rfl hone7 ?_; rw [← HW8.out])
    | (refine wpList_load_rec rfl _ _ rfl w2.heap.size rfl _ 24 stT A8' rfl ?_)
    | fail)
  refine (HM2.out _).mono ?_; rintro e w9 ⟨P9, C9, D9, rfl, ho9, hb9⟩
  have B9 := btr B8 hb9
  have A9' := A8.below hb9
  have s9 := ho9.at
  have t9 := s8.below hb9
  have hone9 := s9.one
  clear A8 A7' A8' s7 s8 b8 hb9 ho9
  obtain ⟨w10, hw10, A10, b10, Z10⟩ := put_new (W := w9) (vs := stC y2 P9 C9 D9) rfl
  have B10 := btr B9 b10
  rw [zero_lit] at hw10 Z10
  have HW10 := Lib.hid hw10
  clear hw10
  have A10' := A9'.below b10
  have s10 := s9.below b10
  have t10 := t9.below b10
  obtain ⟨Ap, cp, rfl, hp, hpc, hpm⟩ := t10.p
  obtain ⟨Aq, cq, rfl, hq, hqc, hqm⟩ := s10.p
  have k1 := A10'.c 6 _ rfl
  have k2 := A10.c 6 _ rfl
  rw [HYP.out] at hp k1
  have HS := Lib.hid hp
  have HT := Lib.hid hq
  have HL := Lib.hid hYl
  clear hp hq hYl t9 t10 s9 s10 hpc hqc A9' A10' A10
  go_wp2_with (first
    | (refine wpList_store_rec rfl _ _ _ rfl (w9.heap.size) (stC y2 (.slice Aq y2.p.length cq) C9 D9) _ rfl rfl 24 stT Z10 rfl rfl hone9 ?_; rw [← HW10.out])
    | fail)
  refine (sameSg_any Ap Aq _ _ cp cq y2.p w10 (by have := HL.out; omega) HS.out HT.out).mono ?_; rintro e w11 ⟨rfl, q, rfl⟩
  go_wp2_with fail
  go_ret
  exact ⟨rfl, bdrewN B10 q⟩
end Go.Proofs.Ytaadajadeemndaa
