/- A font by numbers: the walk. -/
import Derived.Test.YtaphmonpdnbiiaaGreatMFp
import Derived.Test.YtaphmonpdnbiiaaGreatMF1
import Derived.Test.YtaphmonpdnbiiaaGreatMF2
import Derived.Test.YtaphmonpdnbiiaaGreatAllP
import Derived.Test.YtaphmonpdnbiiaaGreatGMade1
import Derived.Test.YtaphmonpdnbiiaaGreatMGr
import Derived.Test.YtaphmonpdnbiiaaGreatMNum
namespace Go.Proofs.YtaphmonpdnbiiaaGreat
open Go.RowKit Go.BigFrame

theorem leT : SlT Tryz.prog 27 48 2 32 := slT_of Tryz.underlying27 (by kernel_rfl) (by omega) (by omega)
theorem prT : SlT Tryz.prog 28 70 3 40 := slT_of Tryz.underlying28 (by kernel_rfl) (by omega) (by omega)
theorem BC_grown {W W' : World} {g : Nat} {C : List Value} {r : Option Nat} (h : BC W g C) (hg : W.grownBy W' r) (hne : r ≠ some g) : BC W' g C := by
  have hb := hg.block g h.lt (fun e => hne e.symm)
  exact ⟨Nat.lt_of_lt_of_le h.lt hg.size, fun i => (World.frozen?_of_block (a := ⟨g, i, none⟩) hb).trans (h.nf i), fun j v hv => (World.cell?_of_block (a := ⟨g, j, none⟩) hb).trans (h.c j v hv)⟩
def foZ : List Value := foC zeroM (.slice none 0 0) (.slice none 0 0) (.slice none 0 0)
/-- Memory while a font is made: the numbers, the font under way, the answer's block. -/
structure MW (w0 : World) (gL gf g2 : Nat) (C : List Value) (W : World) : Prop where
  ord : gL < gf ∧ g2 < gL ∧ gf < w0.heap.size
  ln : LN W gL
  bf : BC W gf C
  b2 : BC W g2 foZ
  os : W.os = w0.os
  tape : W.tape = w0.tape
  output : W.output = w0.output
  sz : w0.heap.size ≤ W.heap.size
  gr : ∀ b, b < w0.heap.size → b ≠ gL → b ≠ gf → W.heap[b]? = w0.heap[b]?
section
variable {w0 W W' : World} {gL gf g2 : Nat} {C : List Value}
theorem MW.step (h : MW w0 gL gf g2 C W) {r : Option Nat} (hg : W.grownBy W' r) (hr : ∀ k, r = some k → w0.heap.size ≤ k) : MW w0 gL gf g2 C W' := by
  obtain ⟨o1, o2, o3⟩ := h.ord
  exact ⟨h.ord, LN_grown h.ln hg (fun k hk => by have := hr k hk; omega), BC_grown h.bf hg (fun e => by have := hr gf e; omega), BC_grown h.b2 hg (fun e => by have := hr g2 e; omega),
    hg.os.trans h.os, hg.tape.trans h.tape, hg.output.trans h.output, Nat.le_trans h.sz hg.size,
    fun b hb h1 h2 => (hg.block b (Nat.lt_of_lt_of_le hb h.sz) (fun e => by have := hr b e.symm; omega)).trans (h.gr b hb h1 h2)⟩
theorem MW.below (h : MW w0 gL gf g2 C W) (hb : Below W.heap.size W W') : MW w0 gL gf g2 C W' :=
  h.step (r := none) ⟨hb.os, hb.tape, hb.output, hb.size, fun k hk _ => hb.block k hk⟩ (fun k hk => by cases hk)
theorem MW.next (h : MW w0 gL gf g2 C W) (hl : LN W' gL) (hg : W.grownBy W' (some gL)) : MW w0 gL gf g2 C W' := by
  obtain ⟨o1, o2, o3⟩ := h.ord
  exact ⟨h.ord, hl, BC_grown h.bf hg (fun e => by injection e with e; omega), BC_grown h.b2 hg (fun e => by injection e with e; omega),
    hg.os.trans h.os, hg.tape.trans h.tape, hg.output.trans h.output, Nat.le_trans h.sz hg.size,
    fun b hb h1 h2 => (hg.block b (Nat.lt_of_lt_of_le hb h.sz) (fun e => by injection e with e; exact h1 e)).trans (h.gr b hb h1 h2)⟩
theorem ln_set {g gx o : Nat} {v : Value} (h : LN W g) (hne : g < gx) : LN (W.setCell ⟨gx, o, none⟩ v) g := by
  refine LN_grown h (row := some gx) ⟨rfl, rfl, rfl, by simp [World.setCell], fun k hk hne => setCell_heap _ _ _ _ _ (fun e => hne (by rw [e]))⟩ (fun k hk => by cases hk; exact hne)
theorem MW.set (h : MW w0 gL gf g2 C W) (j : Nat) (v : Value) (hj : j < C.length) : MW w0 gL gf g2 (C.set j v) (W.setCell ⟨gf, j, none⟩ v) := by
  obtain ⟨o1, o2, o3⟩ := h.ord
  exact ⟨h.ord, ln_set h.ln o1, h.bf.set j v hj, h.b2.apart1 (by omega) j v, h.os, h.tape, h.output, by simp [World.setCell]; exact h.sz,
    fun b hb h1 h2 => (setCell_heap _ _ _ _ _ h2).trans (h.gr b hb h1 h2)⟩
theorem MW.mat {N L K : Value} {m : Mt} (h : MW w0 gL gf g2 (foC m N L K) W) (M : Mt) : MW w0 gL gf g2 (foC M N L K) (W.setCells gf 0 (mtC M)) :=
  (((((h.set 0 (.int .i64 M.a) (by show 0 < 9; omega)).set 1 (.int .i64 M.b) (by show 1 < 9; omega)).set 2 (.int .i64 M.c) (by show 2 < 9; omega)).set 3 (.int .i64 M.d) (by show 3 < 9; omega)).set 4 (.int .i64 M.e) (by show 4 < 9; omega)).set 5 (.int .i64 M.f) (by show 5 < 9; omega)
theorem wpList_store_foM {P : Program} {ops : Array Oper} {rest : List Oper} {op : Oper} {a : Act} {w : World} {Q : Exit → Act → World → Prop} (hgd : op.guard = none) (t : TypeId) (x y : Operand) (ho : op.op = .store t x y) (g : Nat) (hx : a.eval x = .pointer (some ⟨g, 0, none⟩))
    (M m : Mt) (N L K : Value) (hy : a.eval y = .agg (mtC M).toArray) (hT : RecT P t 6) (h : BC w g (foC m N L K)) (hk : wpList P ops Q rest (a.put op.dst undef) (w.setCells g 0 (mtC M))) : wpList P ops Q (op :: rest) a w := by
  obtain ⟨d, hu, hd, hi⟩ := hT
  have ht : w.there g 0 (mtC M).toArray.size := fun j hj => by
    have hj9 : j < (foC m N L K).length := by simp [mtC] at hj; simp [foC]; omega
    rw [Nat.zero_add]
    exact ⟨by rw [h.c j _ (List.getElem?_eq_getElem hj9)]; rfl, h.nf j⟩
  exact wpList_store_mid hgd t x y ho g 0 (mtC M).toArray hx hy ht (by rw [hi]; rfl) (all_oneCell_toArray (mtC_oneR M)) hk
end
set_option maxHeartbeats 400000 in
theorem Whole_any (a b c d e f : Int) (w : World) (h : (-1000 ≤ a ∧ a ≤ 1000) ∧ (-1000 ≤ b ∧ b ≤ 1000) ∧ (-1000 ≤ c ∧ c ≤ 1000) ∧ (-1000 ≤ d ∧ d ≤ 1000) ∧ (-1000 ≤ e ∧ e ≤ 1000) ∧ (-1000 ≤ f ∧ f ≤ 1000)) :
    Calls Tryz.prog 27 #[.int .i64 a, .int .i64 b, .int .i64 c, .int .i64 d, .int .i64 e, .int .i64 f] w fun r w' => r = .returned (mtv ⟨a * 65536, b * 65536, c * 65536, d * 65536, e * 65536, f * 65536⟩) ∧ Below w.heap.size w w' := by
  have f1 : IntKind.i64.wrap (a * 65536) = a * 65536 := IntWalk.i64_in _ (by omega)
  have f2 : IntKind.i64.wrap (b * 65536) = b * 65536 := IntWalk.i64_in _ (by omega)
  have f3 : IntKind.i64.wrap (c * 65536) = c * 65536 := IntWalk.i64_in _ (by omega)
  have f4 : IntKind.i64.wrap (d * 65536) = d * 65536 := IntWalk.i64_in _ (by omega)
  have f5 : IntKind.i64.wrap (e * 65536) = e * 65536 := IntWalk.i64_in _ (by omega)
  have f6 : IntKind.i64.wrap (f * 65536) = f * 65536 := IntWalk.i64_in _ (by omega)
  clear h
  go_enter Tryz.func27, Tryz.ntmps27
  go_wp2
  refine bodyPost_ret (v := mtv ⟨a * 65536, b * 65536, c * 65536, d * 65536, e * 65536, f * 65536⟩) (by simp [results, Tryz.results27, go_sem, mtv]) rfl ?_
  exact ⟨rfl, bal (Below.refl _ _) _⟩
/-- A text's one byte. -/
theorem abc_cut (a : Nat) (ha : a < 3) (W : World) : (Instr.slice 9 (.string { data := #[97, 98, 99] }) (some (.int .i64 (a : Int))) (some (.int .i64 ((a : Int) + 1))) none).run Tryz.prog W = .ok (.string (abc a)) W := by
  rcases (show a = 0 ∨ a = 1 ∨ a = 2 by omega) with rfl | rfl | rfl
  · kernel_rfl
  · kernel_rfl
  · kernel_rfl
theorem code_small {l : List Sg} {wd : Int} (h : PaOK l) (hw : 0 ≤ wd ∧ wd ≤ 24) : codeG l wd = (codeS l wd, 0) := by
  have h1 := codeS_len13 l wd
  have h2 := h.2.1
  unfold codeG
  rw [if_neg (by rw [h.may]; simp; omega), if_neg (by omega)]
theorem PaOK.snoc {l : List Sg} {s : Sg} (h : PaOK l) (hl : l.length ≤ 5) (hr : rightB s (lastK l) = true) (hs : SmS s) : PaOK (l ++ [s]) :=
  ⟨by rw [mayFrom_snoc, h.1]; exact hr, by simp; omega, fun t ht => by
    rcases List.mem_append.1 ht with ht | ht
    · exact h.2.2 t ht
    · rw [List.mem_singleton] at ht; subst ht; exact hs⟩
theorem co19 {v : Int} (h : Sm19 v) : co v = true := by unfold Sm19 at h; rw [co_iff]; omega
theorem right_small {s : Sg} {k : Int} (hs : SmS s) (hk : (s.kind = 1 ∧ k ≠ 1 ∧ s.cx = 0 ∧ s.cy = 0) ∨ (s.kind = 2 ∧ k ≠ 0 ∧ k ≠ 4 ∧ s.cx = 0 ∧ s.cy = 0) ∨ (s.kind = 3 ∧ k ≠ 0 ∧ k ≠ 4) ∨ (s.kind = 4 ∧ k ≠ 0 ∧ k ≠ 4 ∧ s.x = 0 ∧ s.y = 0 ∧ s.cx = 0 ∧ s.cy = 0)) : rightB s k = true := by
  obtain ⟨h1, h2, h3, h4⟩ := hs
  rw [rightB_iff]
  unfold pieceB
  rcases hk with ⟨a, b, c, d⟩ | ⟨a, b, c, d, e⟩ | ⟨a, b, c⟩ | ⟨a, b, c, d, e, f, g⟩
  · simp [a, b, c, d, co19 h1, co19 h2]
  · simp [a, b, c, d, e, co19 h1, co19 h2]
  · simp [a, b, c, co19 h1, co19 h2, co19 h3, co19 h4]
  · simp [a, b, c, d, e, f, g]
end Go.Proofs.YtaphmonpdnbiiaaGreat
