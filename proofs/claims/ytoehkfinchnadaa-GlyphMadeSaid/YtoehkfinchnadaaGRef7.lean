/- The reference's machine: a piece that is called, and the way back. -/
import Derived.Test.YtoehkfinchnadaaGRef6
import Derived.Deep.RegionHeld3
namespace Go.Proofs.Ytoehkfinchnadaa
open Go.RowKit Go.BigFrame

theorem bel_drew {b : Nat} {w w' : World} (h : Below b w w') : Below b w w'.drew := ⟨h.os, h.tape, h.output, h.size, h.block⟩
section
variable {w w' w0 : World} {g : Nat} {P : List ByteArray} {main : ByteArray} {F F0 : List (Int × Nat)} {M : GM} {er : Int}
theorem RAt.pop {ρ : Nat → Nat} {Ap Ai Aa Al : Option Addr} {cp ci ca cw cl n kb : Nat} (h : RAt w g P main F M er ρ Ap cp Ai ci Aa ca (some ⟨kb, 0, none⟩) cw Al cl) (hn : M.wait.length = n + 1) :
    RM (w.setCell ⟨g, 4, none⟩ (.slice (some ⟨kb, 0, none⟩) n cw)) g P main F { M with wait := M.wait.dropLast } er := by
  have hld : M.wait.dropLast.length = n := by rw [List.length_dropLast]; omega
  have h1 := h.rc.set 4 (.slice (some ⟨kb, 0, none⟩) n cw) (by simp [rcv])
  have hw0 := h.rr.hw
  rw [hn] at hw0
  have hrr := h.rr
  rw [hn] at hrr
  have h2 := hrr.popW (v' := .slice (some ⟨kb, 0, none⟩) n cw) (xs' := M.wait.dropLast) (by rw [ints_take, hn, hld]; exact own_pop hw0) (.inl rfl)
  refine ⟨ρ, Ap, cp, Ai, ci, Aa, ca, some ⟨kb, 0, none⟩, cw, Al, cl, ?_, ?_, h.lc⟩
  · simp only [hld]; exact h1
  · simp only [hld]; exact h2.own1 set_own
theorem lit_sl {W : World} {x : Nat} {q : Int} (h : W.cell? ⟨x, 0, none⟩ = some (.int .i64 q)) (hx : x < W.heap.size) : Sl W 1 (some ⟨x, 0, none⟩) 1 (ints [q]) :=
  ⟨by simp [ints], fun _ => ⟨x, 0, rfl, hx, fun j u hu => by
    cases j with
    | zero => simp [ints] at hu; subst hu; exact h
    | succ j => simp [ints] at hu⟩⟩
theorem RR.appI {ρ : Nat → Nat} {fi fa wt : List Int} {l : List Sg} {vi va vw : Value} {Ap Al : Option Addr} (h : RR w g ρ P fi fa wt l vi va vw Ap Al) {k : Nat} {q : Int} {v' : Value} (hk : fi.length = k) (hg : w.grownBy w' vi.ownBlock)
    (ho : w'.ownsRow (g + 1) 3 1 v' (k + 1) (ints fi ++ ints [q])) (hat : v'.ownBlock = vi.ownBlock ∨ v'.ownBlock = some w.heap.size) : ∃ ρ', RR w' g ρ' P (fi ++ [q]) fa wt l v' va vw Ap Al :=
  h.rowI hg (by rw [List.length_append, hk, ints_snoc]; exact ho) hat
theorem RR.appA {ρ : Nat → Nat} {fi fa wt : List Int} {l : List Sg} {vi va vw : Value} {Ap Al : Option Addr} (h : RR w g ρ P fi fa wt l vi va vw Ap Al) {k : Nat} {q : Int} {v' : Value} (hk : fa.length = k) (hg : w.grownBy w' va.ownBlock)
    (ho : w'.ownsRow (g + 1) 3 1 v' (k + 1) (ints fa ++ ints [q])) (hat : v'.ownBlock = va.ownBlock ∨ v'.ownBlock = some w.heap.size) : ∃ ρ', RR w' g ρ' P fi (fa ++ [q]) wt l vi v' vw Ap Al :=
  h.rowA hg (by rw [List.length_append, hk, ints_snoc]; exact ho) hat
/-- A literal's cell. -/
structure RLit (w1 W : World) (x : Nat) (q : Int) : Prop where
  c : W.cell? ⟨x, 0, none⟩ = some (.int .i64 q)
  lt : x < W.heap.size
  le : w1.heap.size ≤ x
theorem RLit.new {w1 W : World} {q : Int} (h : w1.heap.size ≤ W.heap.size) : RLit w1 (W.alloc (.cells #[.int .i64 q] 3)) W.heap.size q := ⟨new_cell _ 0, by simp, h⟩
theorem RLit.new2 {w1 : World} {q : Int} (o : Obj) : RLit w1 ((w1.alloc o).alloc (.cells #[.int .i64 q] 3)) (w1.heap.size + 1) q := by
  have h : RLit w1 ((w1.alloc o).alloc (.cells #[.int .i64 q] 3)) (w1.alloc o).heap.size q := RLit.new (by simp)
  rw [World.size_alloc] at h
  exact h
theorem RLit.al {w1 W : World} {x : Nat} {q : Int} (h : RLit w1 W x q) (o : Obj) : RLit w1 (W.alloc o) x q := ⟨(later_cell (bal (Below.refl _ _) _) h.lt).trans h.c, by have := h.lt; simp; omega, h.le⟩
theorem RLit.dr {w1 W : World} {x : Nat} {q : Int} (h : RLit w1 W x q) : RLit w1 W.drew x q := ⟨h.c, h.lt, h.le⟩
theorem RLit.st {w1 W : World} {x g j : Nat} {q : Int} {u : Value} (h : RLit w1 W x q) (hg : g < w1.heap.size) : RLit w1 (W.setCell ⟨g, j, none⟩ u) x q :=
  ⟨by rw [World.cell?_setCell_other _ _ _ _ (by intro e; injection e; have := h.le; omega)]; exact h.c, by have := h.lt; simpa [World.setCell] using this, h.le⟩
theorem RLit.sl {w1 W : World} {x : Nat} {q : Int} (h : RLit w1 W x q) : Sl W 1 (some ⟨x, 0, none⟩) 1 (ints [q]) := lit_sl h.c h.lt
/-- What an append onto a row of the machine's own leaves of a world. -/
theorem RLit.app {w1 W W' : World} {x : Nat} {q : Int} {v : Value} (h : RLit w1 W x q) (hg : W.grownBy W' v.ownBlock) (hv : ∀ k, v.ownBlock = some k → k < w1.heap.size) : RLit w1 W' x q :=
  ⟨(World.cell?_of_block (a := ⟨x, 0, none⟩) (hg.block x h.lt (fun e => by have := hv x e.symm; have := h.le; omega))).trans h.c, Nat.lt_of_lt_of_le h.lt hg.size, h.le⟩
/-- A world of the walk: the machine in it, its cells told. -/
structure Wd (w1 W : World) (g : Nat) (C : List Value) (P : List ByteArray) (fi fa wt : List Int) (l : List Sg) (vi va vw : Value) (Ap Al : Option Addr) : Prop where
  rc : RC W g C
  rr : ∃ ρ, RR W g ρ P fi fa wt l vi va vw Ap Al
  b : Below g w1 W
section
variable {w1 W W' : World} {C : List Value} {fi fa wt : List Int} {l : List Sg} {vi va vw : Value} {Ap Al : Option Addr}
theorem Wd.al (h : Wd w1 W g C P fi fa wt l vi va vw Ap Al) (o : Obj) : Wd w1 (W.alloc o) g C P fi fa wt l vi va vw Ap Al :=
  ⟨h.rc.below (bal (Below.refl _ _) _), by obtain ⟨ρ, q⟩ := h.rr; exact ⟨ρ, q.below (bal (Below.refl _ _) _)⟩, h.b.trans ((bal (Below.refl _ _) _).mono (Nat.le_of_lt h.rc.lt))⟩
theorem Wd.dr (h : Wd w1 W g C P fi fa wt l vi va vw Ap Al) : Wd w1 W.drew g C P fi fa wt l vi va vw Ap Al :=
  ⟨h.rc.below (bdrew (Below.refl _ _)), by obtain ⟨ρ, q⟩ := h.rr; exact ⟨ρ, q.below (bdrew (Below.refl _ _))⟩, bel_drew h.b⟩
theorem Wd.st (h : Wd w1 W g C P fi fa wt l vi va vw Ap Al) (j : Nat) (u : Value) (hj : j < C.length) : Wd w1 (W.setCell ⟨g, j, none⟩ u) g (C.set j u) P fi fa wt l vi va vw Ap Al :=
  ⟨h.rc.set j u hj, by obtain ⟨ρ, q⟩ := h.rr; exact ⟨ρ, q.own1 set_own⟩, h.b.setCell (p := ⟨g, j, none⟩) (Nat.le_refl g) _⟩
theorem Wd.appI (h : Wd w1 W g C P fi fa wt l vi va vw Ap Al) {k : Nat} {q : Int} {v' : Value} (hk : fi.length = k) (hg : W.grownBy W' vi.ownBlock)
    (ho : W'.ownsRow (g + 1) 3 1 v' (k + 1) (ints fi ++ ints [q])) (hat : v'.ownBlock = vi.ownBlock ∨ v'.ownBlock = some W.heap.size) : Wd w1 W' g C P (fi ++ [q]) fa wt l v' va vw Ap Al := by
  obtain ⟨ρ, h2⟩ := h.rr
  have hgl : ∀ k, vi.ownBlock = some k → g < k := fun k hk => by have := (h2.hi.lt k hk).1; omega
  exact ⟨h.rc.off hg hgl, h2.appI hk hg ho hat, h.b.grown hg (Nat.le_of_lt h.rc.lt) (fun k hk => Nat.le_of_lt (hgl k hk))⟩
theorem Wd.appA (h : Wd w1 W g C P fi fa wt l vi va vw Ap Al) {k : Nat} {q : Int} {v' : Value} (hk : fa.length = k) (hg : W.grownBy W' va.ownBlock)
    (ho : W'.ownsRow (g + 1) 3 1 v' (k + 1) (ints fa ++ ints [q])) (hat : v'.ownBlock = va.ownBlock ∨ v'.ownBlock = some W.heap.size) : Wd w1 W' g C P fi (fa ++ [q]) wt l vi v' vw Ap Al := by
  obtain ⟨ρ, h2⟩ := h.rr
  have hgl : ∀ k, va.ownBlock = some k → g < k := fun k hk => by have := (h2.ha.lt k hk).1; omega
  exact ⟨h.rc.off hg hgl, h2.appA hk hg ho hat, h.b.grown hg (Nat.le_of_lt h.rc.lt) (fun k hk => Nat.le_of_lt (hgl k hk))⟩
theorem Wd.hi (h : Wd w1 W g C P fi fa wt l vi va vw Ap Al) {k : Nat} (hk : fi.length = k) : W.ownsRow (g + 1) 3 1 vi k (ints fi) := by obtain ⟨_, q⟩ := h.rr; rw [← hk]; exact q.hi
theorem Wd.ha (h : Wd w1 W g C P fi fa wt l vi va vw Ap Al) {k : Nat} (hk : fa.length = k) : W.ownsRow (g + 1) 3 1 va k (ints fa) := by obtain ⟨_, q⟩ := h.rr; rw [← hk]; exact q.ha
end
/-- A frame more: both rows have grown. -/
theorem RAt.framed {ρ ρ' : Nat → Nat} {Ap Ai Aa Aw Al Ai' Aa' : Option Addr} {cp ci ca cw cl ci' ca' k : Nat} {q : Int} (h : RAt w g P main F M er ρ Ap cp Ai ci Aa ca Aw cw Al cl) (hk : F.length = k)
    (hr : RR w' g ρ' P (fsI F ++ [q]) (fsA F ++ [((0 : Nat) : Int)]) M.wait M.l (.slice Ai' (k + 1) ci') (.slice Aa' (k + 1) ca') (.slice Aw M.wait.length cw) Ap Al)
    (hc : RC w' g (rcv (.slice Ap P.length cp) main (.slice Ai F.length ci) (.slice Aa F.length ca) (.slice Aw M.wait.length cw) M (.slice Al M.l.length cl) er)) :
    RM ((w'.setCell ⟨g, 2, none⟩ (.slice Ai' (k + 1) ci')).setCell ⟨g, 3, none⟩ (.slice Aa' (k + 1) ca')) g P main (F ++ [(q, 0)]) M er ∧ RM ((w'.setCell ⟨g, 3, none⟩ (.slice Aa' (k + 1) ca')).setCell ⟨g, 2, none⟩ (.slice Ai' (k + 1) ci')) g P main (F ++ [(q, 0)]) M er := by
  have e1 : (F ++ [(q, 0)]).length = k + 1 := by rw [snoc_len, hk]
  constructor
  · refine ⟨ρ', Ap, cp, Ai', ci', Aa', ca', Aw, cw, Al, cl, ?_, ?_, h.lc⟩
    · rw [e1]; exact (hc.set 2 _ (by simp [rcv])).set 3 _ (by simp [rcv])
    · rw [e1, fsI_snoc, fsA_snoc]; exact (hr.own1 set_own).own1 set_own
  · refine ⟨ρ', Ap, cp, Ai', ci', Aa', ca', Aw, cw, Al, cl, ?_, ?_, h.lc⟩
    · rw [e1]; exact (hc.set 3 _ (by simp [rcv])).set 2 _ (by simp [rcv])
    · rw [e1, fsI_snoc, fsA_snoc]; exact (hr.own1 set_own).own1 set_own
theorem Wd.rm {w1 W : World} {C : List Value} {Ap Ai Aa Aw Al : Option Addr} {cp ci ca cw cl k : Nat} {q : Int}
    (h : Wd w1 W g C P (fsI F ++ [q]) (fsA F ++ [0]) M.wait M.l (.slice Ai (k + 1) ci) (.slice Aa (k + 1) ca) (.slice Aw M.wait.length cw) Ap Al)
    (hC : C = rcv (.slice Ap P.length cp) main (.slice Ai (k + 1) ci) (.slice Aa (k + 1) ca) (.slice Aw M.wait.length cw) M (.slice Al M.l.length cl) 0) (hk : F.length = k) (hlc : M.l.length ≤ cl) :
    RM W g P main (F ++ [(q, 0)]) M 0 := by
  subst hC
  obtain ⟨ρ, hr⟩ := h.rr
  have e1 : (F ++ [(q, 0)]).length = k + 1 := by rw [snoc_len, hk]
  refine ⟨ρ, Ap, cp, Ai, ci, Aa, ca, Aw, cw, Al, cl, ?_, ?_, hlc⟩
  · rw [e1]; exact h.rc
  · rw [e1, fsI_snoc, fsA_snoc]; exact hr
end
end Go.Proofs.Ytoehkfinchnadaa
