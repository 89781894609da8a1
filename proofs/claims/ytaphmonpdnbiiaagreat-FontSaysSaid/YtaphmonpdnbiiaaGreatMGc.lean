/- glyph.put: a number behind bytes. -/
import Derived.Test.YtaphmonpdnbiiaaGreatMGl2
import Derived.Test.YtaphmonpdnbiiaaGreatAllP
import Derived.Deep.RegionHeld3
namespace Go.Proofs.YtaphmonpdnbiiaaGreat
open Go.RowKit Go.BigFrame

/-- Bytes as cells. -/
def u8s (l : List Nat) : List Value := l.map fun b : Nat => Value.int .u8 (b : Int)
theorem u8s_app (a b : List Nat) : u8s (a ++ b) = u8s a ++ u8s b := by simp [u8s]
theorem u8T : SlT Tryz.prog 62 5 1 1 := slT_of Tryz.underlying62 (by kernel_rfl) (by omega) (by omega)
theorem oneCell_u8s (l : List Nat) : ∀ u ∈ u8s l, u.oneCell' = true := by
  intro u hu; simp only [u8s, List.mem_map] at hu; obtain ⟨b, _, rfl⟩ := hu; rfl
/-- A row that has grown, and what it has left alone. -/
def GrownRow (B : Nat) (w : World) (A : Option Addr) (n c : Nat) (l : List Nat) (e : Ending) (w' : World) : Prop :=
  ∃ (A' : Option Addr) (n' c' : Nat), e = .returned (.slice A' n' c') ∧ l.length = n' ∧ w'.ownsRow B 5 1 (.slice A' n' c') n' (u8s l) ∧ w.grownBy w' (Value.slice A n c).ownBlock ∧
    ((Value.slice A' n' c').ownBlock = (Value.slice A n c).ownBlock ∨ ∃ k, (Value.slice A' n' c').ownBlock = some k ∧ w.heap.size ≤ k)
theorem al_grown {w w2 : World} {o : Obj} {r : Option Nat} (h : (w.alloc o).grownBy w2 r) : w.grownBy w2 r :=
  ⟨h.os, h.tape, h.output, Nat.le_trans (by simp) h.size, fun k hk hne => (h.block k (by simp; omega) hne).trans ((bal (Below.refl _ _) o).block k hk)⟩

end Go.Proofs.YtaphmonpdnbiiaaGreat

namespace Go.Proofs.YtaphmonpdnbiiaaGreat
open Go.RowKit Go.BigFrame

theorem may_mem : ∀ {l : List Sg} {k : Int}, mayFrom k l = true → ∀ s ∈ l, ((-8191 ≤ s.x ∧ s.x ≤ 8191) ∧ (-8191 ≤ s.y ∧ s.y ≤ 8191) ∧ (-8191 ≤ s.cx ∧ s.cx ≤ 8191) ∧ (-8191 ≤ s.cy ∧ s.cy ≤ 8191)) ∧ (s.kind = 1 ∨ s.kind = 2 ∨ s.kind = 3 ∨ s.kind = 4)
  | [], _, _, _, hs => by simp at hs
  | a :: l, k, h, s, hs => by
    unfold mayFrom at h
    rw [Bool.and_eq_true] at h
    rcases List.mem_cons.1 hs with rfl | hs
    · have h1 := h.1
      simp only [rightB, nearB, co, Bool.and_eq_true, Bool.or_eq_true, List.all_cons, List.all_nil, decide_eq_true_eq, beq_iff_eq, bne_iff_ne, ne_eq, and_true] at h1
      refine ⟨by omega, by omega⟩
    · exact may_mem h.2 s hs
theorem wr64 {v : Int} (h : -100000 ≤ v ∧ v ≤ 100000) : IntKind.i64.wrap v = v := by
  simp only [IntKind.wrap, IntKind.signed, IntKind.bits]; simp; omega
theorem sl_str {w : World} {A : Option Addr} {n c : Nat} {bs : List Nat} (h : Sl w 1 A n (u8s bs)) (hn : 0 < n) : (convert 62 9 (.slice A n c)).run Tryz.prog w = .ok (.string (strOfNums (bs.map Int.ofNat))) w := by
  obtain ⟨b, off, rfl, hb, hc⟩ := h.2 hn
  have hl : bs.length = n := by have := h.1; simp [u8s] at this; omega
  refine run_convert_bytes_arg w 62 5 Tryz.underlying62 Tryz.underlying5 b off n c (bs.map Int.ofNat) (by simpa using hl) (fun i hi => ?_) 9 Tryz.underlying9
  rw [hc i (.int .u8 (bs[i]'(by omega))) (by simp [u8s, hl, hi])]
  simp [List.getD, hl, hi]
theorem cells5 {w w' : World} {g : Nat} {a b c d e : Value} {r : Option Nat} (hg : w.grownBy w' r) (hr : r ≠ some g) (hlt : g < w.heap.size)
    (h : w.cell? ⟨g, 0, none⟩ = some a ∧ w.cell? ⟨g, 1, none⟩ = some b ∧ w.cell? ⟨g, 2, none⟩ = some c ∧ w.cell? ⟨g, 3, none⟩ = some d ∧ w.cell? ⟨g, 4, none⟩ = some e) :
    w'.cell? ⟨g, 0, none⟩ = some a ∧ w'.cell? ⟨g, 1, none⟩ = some b ∧ w'.cell? ⟨g, 2, none⟩ = some c ∧ w'.cell? ⟨g, 3, none⟩ = some d ∧ w'.cell? ⟨g, 4, none⟩ = some e := by
  have hb := hg.block g hlt fun e => hr e.symm
  have k : ∀ i, w'.cell? ⟨g, i, none⟩ = w.cell? ⟨g, i, none⟩ := fun i => World.cell?_of_block (a := ⟨g, i, none⟩) hb
  simp only [k]; exact h

/-- A row that numbers are put to, and s's block beside it. -/
structure PutSt (W w : World) (g : Nat) (v0 v1 v2 v3 v4 : Value) (A : Option Addr) (n c : Nat) (l : List Nat) (N : Nat) : Prop where
  own : w.ownsRow W.heap.size 5 1 (.slice A n c) n (u8s l)
  len : l.length = n
  few : n ≤ N
  below : Below W.heap.size W w
  lt : g < w.heap.size
  ne : (Value.slice A n c).ownBlock ≠ some g
  cells : w.cell? ⟨g, 0, none⟩ = some v0 ∧ w.cell? ⟨g, 1, none⟩ = some v1 ∧ w.cell? ⟨g, 2, none⟩ = some v2 ∧ w.cell? ⟨g, 3, none⟩ = some v3 ∧ w.cell? ⟨g, 4, none⟩ = some v4
section
variable {W w : World} {g g' n c N : Nat} {u v0 v1 v2 v3 v4 : Value} {A : Option Addr} {l : List Nat}
theorem PutSt.dr (h : PutSt W w g v0 v1 v2 v3 v4 A n c l N) : PutSt W w.drew g v0 v1 v2 v3 v4 A n c l N := ⟨own_below h.own (bdrew (Below.refl _ _)), h.len, h.few, bdrew h.below, h.lt, h.ne, h.cells⟩
theorem PutSt.drN (h : PutSt W w g v0 v1 v2 v3 v4 A n c l N) (k : Nat) : PutSt W (w.drewN k) g v0 v1 v2 v3 v4 A n c l N := ⟨own_below h.own (bdrewN (Below.refl _ _) k), h.len, h.few, bdrewN h.below k, h.lt, h.ne, h.cells⟩
theorem PutSt.al (h : PutSt W w g v0 v1 v2 v3 v4 A n c l N) (o : Obj) : PutSt W (w.alloc o) g v0 v1 v2 v3 v4 A n c l N := by
  have hb : Below w.heap.size w (w.alloc o) := bal (Below.refl _ _) o
  have k : ∀ i, (w.alloc o).cell? ⟨g, i, none⟩ = w.cell? ⟨g, i, none⟩ := fun i => World.cell?_of_block (a := ⟨g, i, none⟩) (hb.block g h.lt)
  refine ⟨own_below h.own hb, h.len, h.few, bal h.below o, Nat.lt_of_lt_of_le h.lt hb.size, h.ne, ?_⟩
  simp only [k]; exact h.cells
/-- One cell of a block of its own. -/
def Lit (w : World) (A : Option Addr) (n c g : Nat) (u : Value) : Prop := g < w.heap.size ∧ (Value.slice A n c).ownBlock ≠ some g ∧ w.cell? ⟨g, 0, none⟩ = some u
theorem PutSt.lit (h : PutSt W w g v0 v1 v2 v3 v4 A n c l N) (u : Value) (t : TypeId) : Lit (w.alloc (.cells #[u] t)) A n c w.heap.size u :=
  ⟨by simp, fun e => absurd (h.own.lt _ e).2 (by omega), by rw [cell_of_row (w.alloc (.cells #[u] t)) w.heap.size 0 #[u] t _ (heap_alloc_new w _)]; rfl⟩
theorem PutSt.litg (h : PutSt W w g v0 v1 v2 v3 v4 A n c l N) (u : Value) (t : TypeId) (g' : Nat) (hg : w.heap.size = g') : Lit (w.alloc (.cells #[u] t)) A n c g' u := hg ▸ h.lit u t
theorem al_sz (w : World) (o : Obj) : (w.alloc o).drew.heap.size = w.heap.size + 1 := by simp
theorem Lit.dr (h : Lit w A n c g u) : Lit w.drew A n c g u := h
theorem Lit.drN (h : Lit w A n c g u) (k : Nat) : Lit (w.drewN k) A n c g u := h
theorem Lit.sl (h : Lit w A n c g u) : Sl w 1 (some ⟨g, 0, none⟩) 1 [u] := ⟨rfl, fun _ => ⟨_, _, rfl, h.1, fun j x hx => by
  rcases j with _ | j
  · have : u = x := by simpa using hx
    subst this; simpa using h.2.2
  · simp at hx⟩⟩
theorem PutSt.start (hown : w.ownsRow W.heap.size 5 1 (.slice A n c) n (u8s l)) (hl : l.length = n) (hN : n ≤ N) (hb : Below W.heap.size W w) (t : TypeId) (v0 v1 v2 v3 v4 : Value) :
    PutSt W (w.alloc (.cells #[v0, v1, v2, v3, v4] t)) w.heap.size v0 v1 v2 v3 v4 A n c l N := by
  have k : ∀ i, (w.alloc (.cells #[v0, v1, v2, v3, v4] t)).cell? ⟨w.heap.size, i, none⟩ = #[v0, v1, v2, v3, v4][i]? := fun i => cell_of_row _ w.heap.size i _ t _ (heap_alloc_new w _)
  exact ⟨own_below hown (bal (Below.refl _ _) _), hl, hN, bal hb _, by simp, fun e => absurd (hown.lt _ e).2 (by omega), k 0, k 1, k 2, k 3, k 4⟩
end
theorem PutSt.app {v0 v1 v2 v3 v4 : Value} {l : List Nat} {N : Nat} {W w w5 : World} {A A5 : Option Addr} {n c c5 g : Nat} (h : PutSt W w g v0 v1 v2 v3 v4 A n c l N) (b : Nat) (hg : w.grownBy w5 (Value.slice A n c).ownBlock) (hown5 : w5.ownsRow W.heap.size 5 1 (.slice A5 (n + 1) c5) (n + 1) (u8s l ++ [.int .u8 (b : Int)])) :
    Below W.heap.size W w5 ∧ w5.ownsRow W.heap.size 5 1 (.slice A5 (n + 1) c5) (n + 1) (u8s (l ++ [b])) ∧ (l ++ [b]).length = n + 1 ∧ w5.cell? ⟨g, 0, none⟩ = some v0 ∧ w5.cell? ⟨g, 1, none⟩ = some v1 ∧ w5.cell? ⟨g, 2, none⟩ = some v2 ∧ w5.cell? ⟨g, 3, none⟩ = some v3 ∧ w5.cell? ⟨g, 4, none⟩ = some v4 :=
  ⟨grown_below h.below hg h.own, by rw [u8s_app]; exact hown5, by rw [List.length_append, h.len]; rfl, cells5 hg h.ne h.lt h.cells⟩

theorem bodyG_len13 : ∀ (l : List Sg) (x y bx by_ : Int), (bodyG x y bx by_ l).length ≤ 13 * l.length
  | [], _, _, _, _ => by simp [bodyG]
  | s :: l, x, y, bx, by_ => by
    have d := fun v => (putG_len v).1
    have d1 := d (s.x - x)
    have d2 := d (s.y - y)
    have d3 := d (s.cx - x)
    have d4 := d (s.cy - y)
    unfold bodyG
    split
    · have := bodyG_len13 l bx by_ bx by_
      simp only [List.length_cons]; omega
    · split
      · have := bodyG_len13 l s.x s.y s.x s.y
        simp only [List.length_cons, List.length_append]; omega
      · split
        · have := bodyG_len13 l s.x s.y bx by_
          simp only [List.length_cons, List.length_append]; omega
        · have := bodyG_len13 l s.x s.y bx by_
          simp only [List.length_cons, List.length_append]; omega
theorem codeS_len13 (l : List Sg) (wide : Int) : (codeS l wide).length ≤ 13 * l.length + 6 := by
  have h1 := (putG_len wide).1
  have h2 := bodyG_len13 l 0 0 0 0
  unfold codeS
  simp only [List.length_cons, List.length_append, List.length_nil]; omega
end Go.Proofs.YtaphmonpdnbiiaaGreat

namespace Go.Proofs.YtaphmonpdnbiiaaGreat
open Go.RowKit

theorem bodyG_byte : ∀ (l : List Sg) (x y bx by_ : Int), ∀ b ∈ bodyG x y bx by_ l, b < 256
  | [], _, _, _, _, b, hb => by simp [bodyG] at hb
  | s :: l, x, y, bx, by_, b, hb => by
    unfold bodyG at hb
    split at hb
    · rcases List.mem_cons.1 hb with rfl | hb
      · omega
      · exact bodyG_byte l _ _ _ _ b hb
    · split at hb
      · rcases List.mem_append.1 hb with hb | hb
        · exact putG_byte _ b hb
        · rcases List.mem_append.1 hb with hb | hb
          · exact putG_byte _ b hb
          · rcases List.mem_cons.1 hb with rfl | hb
            · omega
            · exact bodyG_byte l _ _ _ _ b hb
      · split at hb
        · rcases List.mem_append.1 hb with hb | hb
          · exact putG_byte _ b hb
          · rcases List.mem_append.1 hb with hb | hb
            · exact putG_byte _ b hb
            · rcases List.mem_cons.1 hb with rfl | hb
              · omega
              · exact bodyG_byte l _ _ _ _ b hb
        · rcases List.mem_append.1 hb with hb | hb
          · exact putG_byte _ b hb
          · rcases List.mem_append.1 hb with hb | hb
            · exact putG_byte _ b hb
            · rcases List.mem_append.1 hb with hb | hb
              · exact putG_byte _ b hb
              · rcases List.mem_append.1 hb with hb | hb
                · exact putG_byte _ b hb
                · rcases List.mem_cons.1 hb with rfl | hb
                  · omega
                  · exact bodyG_byte l _ _ _ _ b hb
theorem codeS_byte (l : List Sg) (wide : Int) : ∀ b ∈ codeS l wide, b < 256 := by
  intro b hb
  unfold codeS at hb
  rcases List.mem_cons.1 hb with rfl | hb
  · omega
  · rcases List.mem_append.1 hb with hb | hb
    · exact putG_byte _ b hb
    · rcases List.mem_cons.1 hb with rfl | hb
      · omega
      · rcases List.mem_append.1 hb with hb | hb
        · exact bodyG_byte l _ _ _ _ b hb
        · simp at hb; omega
theorem bl_nat {ns : List Nat} (h : ∀ b ∈ ns, b < 256) : bl (strOfNums (ns.map Int.ofNat)) = ns := by
  rw [bl_nums (by intro x hx; obtain ⟨b, hb, rfl⟩ := List.mem_map.1 hx; have := h b hb; simp only [Int.ofNat_eq_natCast]; omega), List.map_map]
  have : (Int.toNat ∘ Int.ofNat) = id := by funext n; simp
  rw [this, List.map_id]
theorem code_made {l : List Sg} {bows : Bool} (h : MadeOK l bows) {wide : Int} (hw : 0 ≤ wide ∧ wide ≤ 8191) : codeG l wide = (codeS l wide, 0) ∧ (codeS l wide).length ≤ 114 := by
  have h1 := codeS_len (l := l) wide fun s hs => by have := h.2.2.1 s hs; unfold smallSg at this; unfold Sml; omega
  have h2 := h.2.1
  refine ⟨?_, by omega⟩
  unfold codeG
  rw [if_neg (by rw [h.may]; simp; omega), if_neg (by omega)]
/-- Code's three answers. -/
theorem codeG_cases (l : List Sg) (wide : Int) : (codeG l wide = (codeS l wide, 0) ∧ mayB l = true ∧ (0 ≤ wide ∧ wide ≤ 8191) ∧ (codeS l wide).length ≤ 600) ∨ codeG l wide = ([], 1) ∨ codeG l wide = ([], 5) := by
  unfold codeG
  by_cases h1 : mayB l = false ∨ wide < 0 ∨ 8191 < wide
  · rw [if_pos h1]; exact .inr (.inl rfl)
  · rw [if_neg h1]
    have hm : mayB l = true := by simp at h1; exact h1.1
    by_cases h2 : 600 < (codeS l wide).length
    · rw [if_pos h2]; exact .inr (.inr rfl)
    · rw [if_neg h2]; exact .inl ⟨rfl, hm, by omega, by omega⟩
end Go.Proofs.YtaphmonpdnbiiaaGreat
