/- tympanlaw42.known: the document's example holds. -/
import Derived.Test.YtaadajadeemndaaShP
namespace Go.Proofs.Ytaadajadeemndaa
open Go.RowKit Go.BigFrame

def knX : St := { newS 32 with p := [⟨1, 16, 496, 0, 0⟩] }
theorem kn_to : toS (fun u v => startL (newS 32).p u v) (newS 32) 65536 65536 false = (knX, 0) := by
  have h1 : mayS (newS 32) = true := by kernel_rfl
  have h2 : pointS (newS 32).m (newS 32).p 65536 65536 false = (16, 496, 0) := by kernel_rfl
  have h3 : startL (newS 32).p 16 496 = ([⟨1, 16, 496, 0, 0⟩], 0) := by kernel_rfl
  unfold toS
  rw [h1, h2]
  simp only [h3]
  rfl
theorem kn_may : mayS knX = true := by kernel_rfl
theorem wpList_load_rec_g {P : Program} {ops : Array Oper} {rest : List Oper} {op : Oper} {a : Act} {w : World} {Q : Exit → Act → World → Prop} (hgd : Region.wanted op (yielded ops a.tmps) = true) (t : TypeId) (x : Operand) (ho : op.op = .load t x) (g : Nat)
    (hx : a.eval x = .pointer (some ⟨g, 0, none⟩)) (C : List Value) (n : Nat) (hT : RecT P t n) (h : BC w g C) (hn : C.length = n)
    (hk : wpList P ops Q rest (a.put op.dst (.agg C.toArray)) w) : wpList P ops Q (op :: rest) a w := by
  obtain ⟨d, hu, hd, hi⟩ := hT
  exact wpList_step fun K hK => by
    rw [if_pos hgd]
    exact wp_load_mid t x ho g 0 hx C d h.range hu hd (by rw [hi, hn]) (hK _ _ hk)
/-- A new block into which a state is written whole. -/
theorem put_new {W : World} {vs : List Value} (hl : vs.length = 24) : ∃ W', W' = (W.alloc (.cells (stC zeroS (.slice none 0 0) (.slice none 0 0) (.slice none 0 0)).toArray 34)).setCells W.heap.size 0 vs ∧ BC W' W.heap.size vs ∧
    Below W.heap.size W W' ∧ BC (W.alloc (.cells (stC zeroS (.slice none 0 0) (.slice none 0 0) (.slice none 0 0)).toArray 34)) W.heap.size (stC zeroS (.slice none 0 0) (.slice none 0 0) (.slice none 0 0)) := by
  have h := BC.new (w := W) (g := W.heap.size) (stC zeroS (.slice none 0 0) (.slice none 0 0) (.slice none 0 0)) 34 rfl
  exact ⟨_, rfl, h.putAll vs (by rw [hl]; rfl), below_setCells (Nat.le_refl _) _ _ _ (bal (Below.refl _ _) _), h⟩
set_option maxRecDepth 100000 in
set_option maxHeartbeats 4000000 in
theorem known42_any (w : World) : Calls Try.prog 8 #[] w fun e w' => e = .returned (.bool true) ∧ Below w.heap.size w w' := by
  have HN := Lib.hid fun W => stNew_any 32 W (by omega) (by omega)
  obtain ⟨x, hx⟩ : ∃ x, newS 32 = x := ⟨_, rfl⟩
  obtain ⟨y, hto, hyp, hym⟩ : ∃ y, toS (fun u v => startL (newS 32).p u v) (newS 32) 65536 65536 false = (y, 0) ∧ y.p = [⟨1, 16, 496, 0, 0⟩] ∧ mayS y = true := ⟨knX, kn_to, rfl, kn_may⟩
  have hat : ∀ W, StAt W x (.slice none 0 0) (.slice none 0 0) (.slice none 0 0) := fun W => by rw [← hx]; exact ⟨PathV.nil, ClV.nil, IntsV.nil⟩
  rw [hx] at HN hto
  have HMv := Lib.hid fun W => stMove_any x (.slice none 0 0) (.slice none 0 0) (.slice none 0 0) 65536 65536 false _ W (hat W) hto
  clear hto hat hx
  go_enter Try.func8, Try.ntmps8
  go_wp2_with fail
  refine (HN.out _).mono ?_; rintro e w1 ⟨rfl, hb1⟩
  have hone1 : ∀ v ∈ stC x (.slice none 0 0) (.slice none 0 0) (.slice none 0 0), v.oneCell' = true := stC_one rfl rfl rfl
  obtain ⟨w2, hw2, A2, b2, Z2⟩ := put_new (W := w1) (vs := stC x (.slice none 0 0) (.slice none 0 0) (.slice none 0 0)) rfl
  have B2 := btr hb1 b2
  rw [zero_lit] at hw2 Z2
  have HW2 := Lib.hid hw2
  clear hw2
  go_wp2_with (first
    | (refine wpList_store_rec rfl _ _ _ rfl (w1.heap.size) (stC x (.slice none 0 0) (.slice none 0 0) (.slice none 0 0)) _ rfl rfl 24 stT Z2 rfl rfl hone1 ?_; rw [← HW2.out])
    | (refine wpList_load_rec rfl _ _ rfl w1.heap.size rfl _ 24 stT A2 rfl ?_)
    | fail)
  refine (HMv.out _).mono ?_; rintro e w3 ⟨P3, C3, D3, rfl, ho3, hb3⟩
  have B3 := btr B2 hb3
  have h3 := ho3.at
  have hone3 := h3.one
  have hp3 := ho3.p
  rw [hyp] at hp3
  obtain ⟨Ap, cp, rfl⟩ := own_form hp3
  have hs3 := own_sl hp3
  clear ho3 hb3 hp3
  simp only [List.length_cons, List.length_nil, Nat.zero_add] at hs3 h3 hone3 ⊢
  obtain ⟨w4, hw4, A4, b4, Z4⟩ := put_new (W := w3) (vs := stC y (.slice Ap 1 cp) C3 D3) rfl
  have B4 := btr B3 b4
  have h4 := h3.below b4
  have hs4 := hs3.below b4
  rw [zero_lit] at hw4 Z4
  obtain ⟨b, off, rfl, hbl, c0, c1, c2, c3, c4⟩ := hs4.sg 0 (by decide) (by decide)
  simp only [List.getElem_cons_zero, Nat.zero_mul, Nat.add_zero] at c0 c1 c2 c3 c4
  have c6 := A4.c 6 _ rfl
  have HM := Lib.hid fun W (hb : Below w4.heap.size w4 W) => stMay_any y (.slice (some ⟨b, off, none⟩) 1 cp) C3 D3 W (h4.below hb)
  rw [hym] at HM
  have HW4 := Lib.hid hw4
  clear hw4 h3 h4 hs3 hs4 b4 hyp hym
  go_wp2_with (first
    | (refine wpList_store_rec rfl _ _ _ rfl (w3.heap.size) (stC y (.slice (some ⟨b, off, none⟩) 1 cp) C3 D3) _ rfl rfl 24 stT Z4 rfl rfl hone3 ?_; rw [← HW4.out])
    | (refine wpList_load_rec_g (by kernel_rfl) _ _ rfl w3.heap.size rfl _ 24 stT A4 rfl ?_)
    | fail)
  refine (HM.out _ (Below.refl _ _)).mono ?_; rintro e w5 ⟨rfl, hb5⟩
  go_wp2_with fail
  go_ret
  exact ⟨rfl, btr B4 hb5⟩
end Go.Proofs.Ytaadajadeemndaa
