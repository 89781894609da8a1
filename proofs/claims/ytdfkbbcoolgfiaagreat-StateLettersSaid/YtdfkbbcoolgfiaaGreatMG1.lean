/- The reference's machine in memory. -/
import Derived.Test.YtdfkbbcoolgfiaaGreatMGl2
import Derived.Test.YtdfkbbcoolgfiaaGreatAllP
namespace Go.Proofs.YtdfkbbcoolgfiaaGreat
open Go.RowKit Go.BigFrame

/-- Its rows: they lie behind block g, each in a block of its own role. -/
structure RR (w : World) (g : Nat) (ρ : Nat → Nat) (P : List ByteArray) (fi fa wt : List Int) (l : List Sg) (vi va vw : Value) (Ap Al : Option Addr) : Prop where
  hp : Sl w 1 Ap P.length (strs P)
  hi : w.ownsRow (g + 1) 3 1 vi fi.length (ints fi)
  ha : w.ownsRow (g + 1) 3 1 va fa.length (ints fa)
  hw : w.ownsRow (g + 1) 3 1 vw wt.length (ints wt)
  hl : Sl w 5 Al l.length (sgs l)
  ri : ∀ k, vi.ownBlock = some k → ρ k = 1
  ra : ∀ k, va.ownBlock = some k → ρ k = 2
  rw : ∀ k, vw.ownBlock = some k → ρ k = 3
  rl : 0 < l.length → ∀ b off, Al = some ⟨b, off, none⟩ → g < b ∧ ρ b = 4
  rp : 0 < P.length → ∀ b off, Ap = some ⟨b, off, none⟩ → g < b ∧ ρ b = 5
section
variable {w w' : World} {g : Nat} {ρ : Nat → Nat} {P : List ByteArray} {fi fa wt : List Int} {l : List Sg} {vi va vw : Value} {Ap Al : Option Addr}
theorem RR.own1 (h : RR w g ρ P fi fa wt l vi va vw Ap Al) (hg : w.grownBy w' (some g)) : RR w' g ρ P fi fa wt l vi va vw Ap Al :=
  ⟨sl_g hg h.hp (fun h0 b off e => by have := (h.rp h0 b off e).1; omega), own_g h.hi hg (by omega), own_g h.ha hg (by omega), own_g h.hw hg (by omega), sl_g hg h.hl (fun h0 b off e => by have := (h.rl h0 b off e).1; omega), h.ri, h.ra, h.rw, h.rl, h.rp⟩
theorem RR.below (h : RR w g ρ P fi fa wt l vi va vw Ap Al) (hb : Below w.heap.size w w') : RR w' g ρ P fi fa wt l vi va vw Ap Al :=
  ⟨h.hp.below hb, own_below h.hi hb, own_below h.ha hb, own_below h.hw hb, h.hl.below hb, h.ri, h.ra, h.rw, h.rl, h.rp⟩
theorem own_off {base : Nat} {e : TypeId} {s n : Nat} {v u : Value} {xs : List Value} (h : w.ownsRow base e s v n xs) (hg : w.grownBy w' u.ownBlock) (hne : ∀ k, v.ownBlock = some k → u.ownBlock = some k → False) : w'.ownsRow base e s v n xs :=
  h.kept hg (by
    cases hv : v.ownBlock with
    | none => simp
    | some k =>
      cases hu : u.ownBlock with
      | none => simp
      | some k2 =>
        simp
        intro e; subst e; exact hne _ hv hu)
theorem sl_off {s n : Nat} {A : Option Addr} {u : Value} {xs : List Value} (h : Sl w s A n xs) (hg : w.grownBy w' u.ownBlock) (hne : 0 < n → ∀ b off, A = some ⟨b, off, none⟩ → u.ownBlock = some b → False) : Sl w' s A n xs :=
  ⟨h.1, fun hn => by
    obtain ⟨b, off, e, hb, hc⟩ := h.2 hn
    exact ⟨b, off, e, Nat.lt_of_lt_of_le hb hg.size, fun j x hx => (World.cell?_of_block (a := ⟨b, off + j, none⟩) (hg.block b hb (fun e2 => hne hn b off e e2.symm))).trans (hc j x hx)⟩⟩
/-- A role for the next block. -/
def role (ρ : Nat → Nat) (k r : Nat) : Nat → Nat := fun b => if b = k then r else ρ b
theorem role_old {ρ : Nat → Nat} {k r b : Nat} (h : b < k) : role ρ k r b = ρ b := by unfold role; rw [if_neg (by omega)]
theorem own_in {base : Nat} {e : TypeId} {s n : Nat} {v : Value} {xs : List Value} (h : w.ownsRow base e s v n xs) {k : Nat} (hk : v.ownBlock = some k) : k < w.heap.size := (h.lt k hk).2
theorem sl_in {s n b off : Nat} {A : Option Addr} {xs : List Value} (h : Sl w s A n xs) (hn : 0 < n) (hA : A = some ⟨b, off, none⟩) : b < w.heap.size := by
  obtain ⟨b1, o1, e, hb, _⟩ := h.2 hn
  rw [hA] at e; injection e with e; injection e with e1 e2; omega
theorem RR.rowW (h : RR w g ρ P fi fa wt l vi va vw Ap Al) {v' : Value} {xs' : List Int} (hg : w.grownBy w' vw.ownBlock) (ho : w'.ownsRow (g + 1) 3 1 v' xs'.length (ints xs')) (hat : v'.ownBlock = vw.ownBlock ∨ v'.ownBlock = some w.heap.size) :
    ∃ ρ', RR w' g ρ' P fi fa xs' l vi va v' Ap Al := by
  have q := @own_in _ _ _ _ _ _ _ h.hi
  have q2 := @own_in _ _ _ _ _ _ _ h.ha
  have q3 := @own_in _ _ _ _ _ _ _ h.hw
  have old : ∀ {b : Nat}, b < w.heap.size → role ρ w.heap.size 3 b = ρ b := fun hb => role_old hb
  have hr : ∀ k, v'.ownBlock = some k → role ρ w.heap.size 3 k = 3 := by
    intro k hk
    rcases hat with e | e
    · rw [e] at hk
      have := h.rw k hk
      unfold role; split
      · rfl
      · exact this
    · rw [e] at hk; injection hk with hk; unfold role; rw [if_pos hk.symm]
  refine ⟨role ρ w.heap.size 3, ?_, own_off h.hi hg (fun k hv hu => by have h1 := h.ri k hv; have h2 := h.rw k hu; omega), own_off h.ha hg (fun k hv hu => by have h1 := h.ra k hv; have h2 := h.rw k hu; omega), ho, ?_, fun k hk => by rw [old (q hk)]; exact h.ri k hk, fun k hk => by rw [old (q2 hk)]; exact h.ra k hk, hr, ?_, ?_⟩
  · exact sl_off h.hp hg fun h0 b off e hk => by have h1 := (h.rp h0 b off e).2; have h2 := h.rw b hk; omega
  · exact sl_off h.hl hg fun h0 b off e hk => by have h1 := (h.rl h0 b off e).2; have h2 := h.rw b hk; omega
  · intro h0 b off e; rw [old (sl_in h.hl h0 e)]; exact h.rl h0 b off e
  · intro h0 b off e; rw [old (sl_in h.hp h0 e)]; exact h.rp h0 b off e
theorem RR.rowI (h : RR w g ρ P fi fa wt l vi va vw Ap Al) {v' : Value} {xs' : List Int} (hg : w.grownBy w' vi.ownBlock) (ho : w'.ownsRow (g + 1) 3 1 v' xs'.length (ints xs')) (hat : v'.ownBlock = vi.ownBlock ∨ v'.ownBlock = some w.heap.size) :
    ∃ ρ', RR w' g ρ' P xs' fa wt l v' va vw Ap Al := by
  have q := @own_in _ _ _ _ _ _ _ h.hi
  have q2 := @own_in _ _ _ _ _ _ _ h.ha
  have q3 := @own_in _ _ _ _ _ _ _ h.hw
  have old : ∀ {b : Nat}, b < w.heap.size → role ρ w.heap.size 1 b = ρ b := fun hb => role_old hb
  have hr : ∀ k, v'.ownBlock = some k → role ρ w.heap.size 1 k = 1 := by
    intro k hk
    rcases hat with e | e
    · rw [e] at hk
      have := h.ri k hk
      unfold role; split
      · rfl
      · exact this
    · rw [e] at hk; injection hk with hk; unfold role; rw [if_pos hk.symm]
  refine ⟨role ρ w.heap.size 1, ?_, ho, own_off h.ha hg (fun k hv hu => by have h1 := h.ra k hv; have h2 := h.ri k hu; omega), own_off h.hw hg (fun k hv hu => by have h1 := h.rw k hv; have h2 := h.ri k hu; omega), ?_, hr, fun k hk => by rw [old (q2 hk)]; exact h.ra k hk, fun k hk => by rw [old (q3 hk)]; exact h.rw k hk, ?_, ?_⟩
  · exact sl_off h.hp hg fun h0 b off e hk => by have h1 := (h.rp h0 b off e).2; have h2 := h.ri b hk; omega
  · exact sl_off h.hl hg fun h0 b off e hk => by have h1 := (h.rl h0 b off e).2; have h2 := h.ri b hk; omega
  · intro h0 b off e; rw [old (sl_in h.hl h0 e)]; exact h.rl h0 b off e
  · intro h0 b off e; rw [old (sl_in h.hp h0 e)]; exact h.rp h0 b off e
theorem RR.rowA (h : RR w g ρ P fi fa wt l vi va vw Ap Al) {v' : Value} {xs' : List Int} (hg : w.grownBy w' va.ownBlock) (ho : w'.ownsRow (g + 1) 3 1 v' xs'.length (ints xs')) (hat : v'.ownBlock = va.ownBlock ∨ v'.ownBlock = some w.heap.size) :
    ∃ ρ', RR w' g ρ' P fi xs' wt l vi v' vw Ap Al := by
  have q := @own_in _ _ _ _ _ _ _ h.hi
  have q2 := @own_in _ _ _ _ _ _ _ h.ha
  have q3 := @own_in _ _ _ _ _ _ _ h.hw
  have old : ∀ {b : Nat}, b < w.heap.size → role ρ w.heap.size 2 b = ρ b := fun hb => role_old hb
  have hr : ∀ k, v'.ownBlock = some k → role ρ w.heap.size 2 k = 2 := by
    intro k hk
    rcases hat with e | e
    · rw [e] at hk
      have := h.ra k hk
      unfold role; split
      · rfl
      · exact this
    · rw [e] at hk; injection hk with hk; unfold role; rw [if_pos hk.symm]
  refine ⟨role ρ w.heap.size 2, ?_, own_off h.hi hg (fun k hv hu => by have h1 := h.ri k hv; have h2 := h.ra k hu; omega), ho, own_off h.hw hg (fun k hv hu => by have h1 := h.rw k hv; have h2 := h.ra k hu; omega), ?_, fun k hk => by rw [old (q hk)]; exact h.ri k hk, hr, fun k hk => by rw [old (q3 hk)]; exact h.rw k hk, ?_, ?_⟩
  · exact sl_off h.hp hg fun h0 b off e hk => by have h1 := (h.rp h0 b off e).2; have h2 := h.ra b hk; omega
  · exact sl_off h.hl hg fun h0 b off e hk => by have h1 := (h.rl h0 b off e).2; have h2 := h.ra b hk; omega
  · intro h0 b off e; rw [old (sl_in h.hl h0 e)]; exact h.rl h0 b off e
  · intro h0 b off e; rw [old (sl_in h.hp h0 e)]; exact h.rp h0 b off e
/-- Another path, made behind the machine's rows. -/
theorem RR.setL (h : RR w g ρ P fi fa wt l vi va vw Ap Al) (hb : Below w.heap.size w w') (hgw : g < w.heap.size) {A : Option Addr} {L : List Sg} (hs : Sl w' 5 A L.length (sgs L)) (hA : ∀ b off, A = some ⟨b, off, none⟩ → w.heap.size ≤ b) : ∃ ρ', RR w' g ρ' P fi fa wt L vi va vw Ap A := by
  have q := @own_in _ _ _ _ _ _ _ h.hi
  have q2 := @own_in _ _ _ _ _ _ _ h.ha
  have q3 := @own_in _ _ _ _ _ _ _ h.hw
  have h' := h.below hb
  refine ⟨fun b => if b < w.heap.size then ρ b else 4, h'.hp, h'.hi, h'.ha, h'.hw, hs, fun k hk => by simp only [if_pos (q hk)]; exact h.ri k hk, fun k hk => by simp only [if_pos (q2 hk)]; exact h.ra k hk, fun k hk => by simp only [if_pos (q3 hk)]; exact h.rw k hk, ?_, ?_⟩
  · intro _ b off e
    have := hA b off e
    exact ⟨by omega, by simp only [if_neg (show ¬ b < w.heap.size by omega)]⟩
  · intro h0 b off e; simp only [if_pos (sl_in h.hp h0 e)]; exact h.rp h0 b off e
/-- No row is one of another role: shorter rows in their blocks. -/
theorem RR.popW (h : RR w g ρ P fi fa wt l vi va vw Ap Al) {v' : Value} {xs' : List Int} (ho : w.ownsRow (g + 1) 3 1 v' xs'.length (ints xs')) (hat : v'.ownBlock = vw.ownBlock ∨ v'.ownBlock = none) : RR w g ρ P fi fa xs' l vi va v' Ap Al :=
  ⟨h.hp, h.hi, h.ha, ho, h.hl, h.ri, h.ra, fun k hk => hat.elim (fun e => h.rw k (e ▸ hk)) (fun e => by rw [e] at hk; cases hk), h.rl, h.rp⟩
theorem RR.popI (h : RR w g ρ P fi fa wt l vi va vw Ap Al) {v' : Value} {xs' : List Int} (ho : w.ownsRow (g + 1) 3 1 v' xs'.length (ints xs')) (hat : v'.ownBlock = vi.ownBlock ∨ v'.ownBlock = none) : RR w g ρ P xs' fa wt l v' va vw Ap Al :=
  ⟨h.hp, ho, h.ha, h.hw, h.hl, fun k hk => hat.elim (fun e => h.ri k (e ▸ hk)) (fun e => by rw [e] at hk; cases hk), h.ra, h.rw, h.rl, h.rp⟩
theorem RR.popA (h : RR w g ρ P fi fa wt l vi va vw Ap Al) {v' : Value} {xs' : List Int} (ho : w.ownsRow (g + 1) 3 1 v' xs'.length (ints xs')) (hat : v'.ownBlock = va.ownBlock ∨ v'.ownBlock = none) : RR w g ρ P fi xs' wt l vi v' vw Ap Al :=
  ⟨h.hp, h.hi, ho, h.hw, h.hl, h.ri, fun k hk => hat.elim (fun e => h.ra k (e ▸ hk)) (fun e => by rw [e] at hk; cases hk), h.rw, h.rl, h.rp⟩
end

/-- The machine's cells. -/
structure RC (w : World) (g : Nat) (C : List Value) : Prop where
  lt : g < w.heap.size
  nf : ∀ i, w.frozen? ⟨g, i, none⟩ = false
  c : ∀ j v, C[j]? = some v → w.cell? ⟨g, j, none⟩ = some v
theorem RC.set {w : World} {g : Nat} {C : List Value} (h : RC w g C) (j : Nat) (u : Value) (hj : j < C.length) : RC (w.setCell ⟨g, j, none⟩ u) g (C.set j u) := by
  refine ⟨by simpa [World.setCell] using h.lt, fz_set h.nf j u, fun i v hv => ?_⟩
  by_cases hij : j = i
  · subst hij
    rw [List.getElem?_set_self hj] at hv
    cases hv
    exact cs_same (h.c j _ (List.getElem?_eq_getElem hj))
  · rw [List.getElem?_set_ne hij] at hv
    exact cs_other hij (h.c i v hv)
theorem RC.below {w w' : World} {g : Nat} {C : List Value} (h : RC w g C) (hb : Below w.heap.size w w') : RC w' g C :=
  ⟨Nat.lt_of_lt_of_le h.lt hb.size, fun i => (later_frozen hb h.lt).trans (h.nf i), fun j v hv => (later_cell hb h.lt).trans (h.c j v hv)⟩
theorem RC.off {w w' : World} {g : Nat} {C : List Value} {u : Value} (h : RC w g C) (hg : w.grownBy w' u.ownBlock) (hne : ∀ k, u.ownBlock = some k → g < k) : RC w' g C := by
  have hb := hg.block g h.lt fun e => by have := hne g e.symm; omega
  exact ⟨Nat.lt_of_lt_of_le h.lt hg.size, fun i => (World.frozen?_of_block (a := ⟨g, i, none⟩) hb).trans (h.nf i), fun j v hv => (World.cell?_of_block (a := ⟨g, j, none⟩) hb).trans (h.c j v hv)⟩
/-- The thirteen of them. -/
def rcv (vp : Value) (main : ByteArray) (vi va vw : Value) (M : GM) (vl : Value) (er : Int) : List Value :=
  [vp, .string main, vi, va, vw, .int .i64 M.x, .int .i64 M.y, vl, .int .i64 M.wide, .bool M.drawn, .int .i64 (M.ops : Int), .bool M.over, .int .i64 er]
def fsI (F : List (Int × Nat)) : List Int := F.map (·.1)
def fsA (F : List (Int × Nat)) : List Int := F.map fun p => ((p.2 : Nat) : Int)

/-- The reference's machine in block g: its pieces, its frames, what it knows, what went wrong. -/
structure RAt (w : World) (g : Nat) (P : List ByteArray) (main : ByteArray) (F : List (Int × Nat)) (M : GM) (er : Int) (ρ : Nat → Nat) (Ap : Option Addr) (cp : Nat) (Ai : Option Addr) (ci : Nat) (Aa : Option Addr) (ca : Nat) (Aw : Option Addr) (cw : Nat) (Al : Option Addr) (cl : Nat) : Prop where
  rc : RC w g (rcv (.slice Ap P.length cp) main (.slice Ai F.length ci) (.slice Aa F.length ca) (.slice Aw M.wait.length cw) M (.slice Al M.l.length cl) er)
  rr : RR w g ρ P (fsI F) (fsA F) M.wait M.l (.slice Ai F.length ci) (.slice Aa F.length ca) (.slice Aw M.wait.length cw) Ap Al
  lc : M.l.length ≤ cl
def RM (w : World) (g : Nat) (P : List ByteArray) (main : ByteArray) (F : List (Int × Nat)) (M : GM) (er : Int) : Prop :=
  ∃ ρ Ap cp Ai ci Aa ca Aw cw Al cl, RAt w g P main F M er ρ Ap cp Ai ci Aa ca Aw cw Al cl
theorem RM.below {w w' : World} {g : Nat} {P : List ByteArray} {main : ByteArray} {F : List (Int × Nat)} {M : GM} {er : Int} (h : RM w g P main F M er) (hb : Below w.heap.size w w') : RM w' g P main F M er := by
  obtain ⟨ρ, Ap, cp, Ai, ci, Aa, ca, Aw, cw, Al, cl, h⟩ := h
  exact ⟨ρ, Ap, cp, Ai, ci, Aa, ca, Aw, cw, Al, cl, h.rc.below hb, h.rr.below hb, h.lc⟩
/-- A number or a truth of its own is written. -/
theorem RAt.put {w : World} {g : Nat} {P : List ByteArray} {main : ByteArray} {F : List (Int × Nat)} {M : GM} {er : Int} {ρ : Nat → Nat} {Ap Ai Aa Aw Al : Option Addr} {cp ci ca cw cl : Nat} (h : RAt w g P main F M er ρ Ap cp Ai ci Aa ca Aw cw Al cl)
    (j : Nat) (u : Value) (M' : GM) (er' : Int) (hw : M'.wait = M.wait) (hl : M'.l = M.l) (hj : j < 13)
    (hC : (rcv (.slice Ap P.length cp) main (.slice Ai F.length ci) (.slice Aa F.length ca) (.slice Aw M.wait.length cw) M (.slice Al M.l.length cl) er).set j u = rcv (.slice Ap P.length cp) main (.slice Ai F.length ci) (.slice Aa F.length ca) (.slice Aw M.wait.length cw) M' (.slice Al M.l.length cl) er') :
    RAt (w.setCell ⟨g, j, none⟩ u) g P main F M' er' ρ Ap cp Ai ci Aa ca Aw cw Al cl := by
  have h1 := h.rc.set j u hj
  rw [hC] at h1
  refine ⟨by rw [hw, hl]; exact h1, by rw [hw, hl]; exact h.rr.own1 set_own, by rw [hl]; exact h.lc⟩

set_option maxHeartbeats 400000 in
/-- What went wrong first. -/
theorem wrong_first (g : Nat) (C : List Value) (er : Int) (w : World) (h : RC w g C) (h0 : C[12]? = some (.int .i64 0)) :
    Calls Tryz.prog 184 #[.pointer (some ⟨g, 0, none⟩), .int .i64 er] w fun e w' => e = .returned (.tuple #[]) ∧ w' = w.setCell ⟨g, 12, none⟩ (.int .i64 er) := by
  have c := h.c 12 _ h0
  have nf := h.nf 12
  clear h h0
  go_enter Tryz.func184, Tryz.ntmps184
  go_wp2
  go_end0
  exact ⟨rfl, rfl⟩
theorem wrong_again (g : Nat) (C : List Value) (er e0 : Int) (w : World) (h : RC w g C) (h0 : C[12]? = some (.int .i64 e0)) (hz : e0 ≠ 0) :
    Calls Tryz.prog 184 #[.pointer (some ⟨g, 0, none⟩), .int .i64 er] w fun e w' => e = .returned (.tuple #[]) ∧ w' = w := by
  have c := h.c 12 _ h0
  have hz1 : (e0 == 0) = false := by simp [hz]
  clear h h0
  go_enter Tryz.func184, Tryz.ntmps184
  go_wp2
  go_end0
  exact ⟨rfl, rfl⟩
end Go.Proofs.YtdfkbbcoolgfiaaGreat

namespace Go.Proofs.YtdfkbbcoolgfiaaGreat
open Go.RowKit Go.BigFrame

section
variable {w w' : World} {g : Nat} {P : List ByteArray} {main : ByteArray} {F F0 : List (Int × Nat)} {M : GM} {er : Int}
theorem RM.lt (h : RM w g P main F M er) : g < w.heap.size := by
  obtain ⟨ρ, Ap, cp, Ai, ci, Aa, ca, Aw, cw, Al, cl, h⟩ := h
  exact h.rc.lt
theorem wrong_any (e1 : Int) (h : RM w g P main F M er) :
    Calls Tryz.prog 184 #[.pointer (some ⟨g, 0, none⟩), .int .i64 e1] w fun e w' => e = .returned (.tuple #[]) ∧ RM w' g P main F M (if er = 0 then e1 else er) ∧ Below g w w' := by
  obtain ⟨ρ, Ap, cp, Ai, ci, Aa, ca, Aw, cw, Al, cl, h⟩ := h
  by_cases h0 : er = 0
  · subst h0
    refine (wrong_first g _ e1 w h.rc rfl).mono ?_; rintro e w' ⟨rfl, rfl⟩
    rw [if_pos rfl]
    exact ⟨rfl, ⟨ρ, Ap, cp, Ai, ci, Aa, ca, Aw, cw, Al, cl, h.put 12 (.int .i64 e1) M e1 rfl rfl (by omega) rfl⟩, (Below.refl g w).setCell (p := ⟨g, 12, none⟩) (Nat.le_refl g) _⟩
  · refine (wrong_again g _ e1 er w h.rc rfl h0).mono ?_; rintro e w' ⟨rfl, rfl⟩
    rw [if_neg h0]
    exact ⟨rfl, ⟨ρ, Ap, cp, Ai, ci, Aa, ca, Aw, cw, Al, cl, h⟩, Below.refl _ _⟩
theorem fsI_snoc (F : List (Int × Nat)) (i : Int) (a : Nat) : fsI (F ++ [(i, a)]) = fsI F ++ [i] := by simp [fsI]
theorem fsA_snoc (F : List (Int × Nat)) (i : Int) (a : Nat) : fsA (F ++ [(i, a)]) = fsA F ++ [(a : Int)] := by simp [fsA]
theorem fsI_len (F : List (Int × Nat)) : (fsI F).length = F.length := by simp [fsI]
theorem fsA_len (F : List (Int × Nat)) : (fsA F).length = F.length := by simp [fsA]
theorem snoc_len {α : Type} (F : List α) (x : α) : (F ++ [x]).length = F.length + 1 := by simp
theorem RAt.below {ρ : Nat → Nat} {Ap Ai Aa Aw Al : Option Addr} {cp ci ca cw cl : Nat} (h : RAt w g P main F M er ρ Ap cp Ai ci Aa ca Aw cw Al cl) (hb : Below w.heap.size w w') : RAt w' g P main F M er ρ Ap cp Ai ci Aa ca Aw cw Al cl :=
  ⟨h.rc.below hb, h.rr.below hb, h.lc⟩
/-- The next place of the innermost frame. -/
theorem RAt.bump {i : Int} {a : Nat} {ρ : Nat → Nat} {Ap Ai Aw Al : Option Addr} {cp ci ca cw cl ba : Nat} (h : RAt w g P main (F0 ++ [(i, a)]) M er ρ Ap cp Ai ci (some ⟨ba, 0, none⟩) ca Aw cw Al cl) :
    RM (w.setCell ⟨ba, F0.length, none⟩ (.int .i64 ((a : Int) + 1))) g P main (F0 ++ [(i, a + 1)]) M er ∧ Below g w (w.setCell ⟨ba, F0.length, none⟩ (.int .i64 ((a : Int) + 1))) := by
  have hl : (F0 ++ [(i, a)]).length = F0.length + 1 := snoc_len _ _
  have hl2 : (F0 ++ [(i, a + 1)]).length = F0.length + 1 := snoc_len _ _
  have ho := h.rr.ha
  rw [fsA_len, hl] at ho
  have hgb : g + 1 ≤ ba := (ho.lt ba rfl).1
  obtain ⟨ho2, hg⟩ := ho.stored F0.length (.int .i64 ((a : Int) + 1))
  have e1 : (ints (fsA (F0 ++ [(i, a)]))).set F0.length (.int .i64 ((a : Int) + 1)) = ints (fsA (F0 ++ [(i, a + 1)])) := by
    have hF : F0.length = (ints (fsA F0)).length := by simp [ints, fsA]
    rw [fsA_snoc, fsA_snoc, ints_snoc, ints_snoc]
    rw [List.set_append_right _ _ (by omega), ← hF, Nat.sub_self]
    simp
  rw [e1] at ho2
  have hrr := h.rr
  rw [hl] at hrr
  obtain ⟨ρ', hr⟩ := hrr.rowA (v' := .slice (some ⟨ba, 0, none⟩) (F0.length + 1) ca) (xs' := fsA (F0 ++ [(i, a + 1)])) hg (by rw [fsA_len, hl2]; exact ho2) (.inl rfl)
  refine ⟨⟨ρ', Ap, cp, Ai, ci, some ⟨ba, 0, none⟩, ca, Aw, cw, Al, cl, ?_, ?_, h.lc⟩, ?_⟩
  · have := h.rc.off (u := .slice (some ⟨ba, 0, none⟩) (F0.length + 1) ca) hg (fun k hk => by have : ba = k := Option.some.inj hk; omega)
    rw [hl2]; rw [hl] at this; exact this
  · rw [hl2]
    have e2 : fsI (F0 ++ [(i, a + 1)]) = fsI (F0 ++ [(i, a)]) := by rw [fsI_snoc, fsI_snoc]
    rw [e2]; exact hr
  · exact (Below.refl g w).setCell (p := ⟨ba, F0.length, none⟩) (by simp only; omega) _
end
/-- The piece that a frame runs. -/
def PcOf (P : List ByteArray) (main : ByteArray) (i : Int) (T : ByteArray) : Prop := (i < 0 ∧ T = main) ∨ ∃ p : Nat, i = (p : Int) ∧ P[p]? = some T

set_option maxRecDepth 100000 in
set_option maxHeartbeats 1000000 in
theorem next_any (g : Nat) (P : List ByteArray) (main : ByteArray) (F0 : List (Int × Nat)) (i : Int) (a : Nat) (M : GM) (er : Int) (T : ByteArray) (w : World) (h : RM w g P main (F0 ++ [(i, a)]) M er)
    (hT : PcOf P main i T) (hts : T.size ≤ 1000000) (ha : a ≤ T.size) (hF : F0.length ≤ 10) :
    Calls Tryz.prog 168 #[.pointer (some ⟨g, 0, none⟩)] w fun e w' => Below g w w' ∧
      if a < T.size then e = .returned (.int .i64 (byt T a : Int)) ∧ RM w' g P main (F0 ++ [(i, a + 1)]) M er else e = .returned (.int .i64 0) ∧ RM w' g P main (F0 ++ [(i, a)]) M (if er = 0 then 4 else er) := by
  have HRM := Lib.hid h
  obtain ⟨ρ, Ap, cp, Ai, ci, Aa, ca, Aw, cw, Al, cl, h⟩ := h
  have hl : (F0 ++ [(i, a)]).length = F0.length + 1 := snoc_len _ _
  obtain ⟨k, hk⟩ : ∃ k, F0.length = k := ⟨_, rfl⟩
  have c0 := h.rc.c 0 _ rfl
  have c1 := h.rc.c 1 _ rfl
  have c2 := h.rc.c 2 _ rfl
  have c3 := h.rc.c 3 _ rfl
  have hoi := h.rr.hi
  have hoa := h.rr.ha
  rw [fsI_len] at hoi
  rw [fsA_len] at hoa
  rw [hl, hk] at c2 c3 hoi hoa
  obtain ⟨bi, rfl, hbi, hbis⟩ := own_some hoi (by omega)
  obtain ⟨ba, rfl, hba, hbas⟩ := own_some hoa (by omega)
  have di : w.cell? ⟨bi, k, none⟩ = some (.int .i64 i) := by
    rw [hoi.cellAt k (by omega), fsI_snoc, ints_snoc, ← hk]
    have : F0.length = (ints (fsI F0)).length := by simp [ints, fsI]
    rw [this]; simp
  have da : w.cell? ⟨ba, k, none⟩ = some (.int .i64 (a : Int)) := by
    rw [hoa.cellAt k (by omega), fsA_snoc, ints_snoc, ← hk]
    have : F0.length = (ints (fsA F0)).length := by simp [ints, fsA]
    rw [this]; simp
  have fa := hoa.frozenAt k
  have hbump := fun q => (h.below (bdrewN (Below.refl w.heap.size w) q)).bump
  simp only [hk] at hbump
  obtain ⟨e4, he4⟩ : ∃ x, (if er = 0 then 4 else er) = x := ⟨_, rfl⟩
  simp only [he4]
  have HE4 := Lib.hid he4
  clear he4
  have ib := fun (hlt : a < T.size) W => run_byt (t := 9) (s := T) (k := a) (i := (a : Int)) rfl Tryz.underlying9 hlt W
  have HB := Lib.hid hbump
  have da2 : ∀ q, ((w.drewN q).setCell ⟨ba, k, none⟩ (.int .i64 ((a : Int) + 1))).cell? ⟨ba, k, none⟩ = some (.int .i64 ((a : Int) + 1)) := fun q => World.cell?_setCell_same _ _ _ (show (w.drewN q).cell? _ = _ from da)
  have hD : ∀ q, Below g w (w.drewN q) := fun q => (bdrewN (Below.refl w.heap.size w) q).mono (Nat.le_of_lt h.rc.lt)
  have hB0 : Below g w (w.setCell ⟨ba, k, none⟩ (.int .i64 ((a : Int) + 1))) := (Below.refl g w).setCell (p := ⟨ba, k, none⟩) (by simp only; omega) _
  have hai : (a : Int) + 1 - 1 = (a : Int) := by omega
  have hbyt := byt_lt T a
  obtain ⟨z, hz⟩ : ∃ z, byt T a = z := ⟨_, rfl⟩
  rw [hz] at ib hbyt ⊢
  have hgba : g ≠ ba := by omega
  have hpieces := h.rr.hp
  clear hz hbump hoi hoa
  rcases hT with ⟨hi0, rfl⟩ | ⟨p, rfl, hpT⟩
  · have hd0 : decide (i ≥ 0) = false := by simp; omega
    by_cases hlt : a < T.size
    · have ib' := ib hlt
      have hd1 : decide ((a : Int) ≥ (T.size : Int)) = false := by simp; omega
      have hd2 : decide ((T.size : Int) ≤ (a : Int)) = false := by simp; omega
      have hd3 : decide (T.size ≤ a) = false := by simp; omega
      simp only [if_pos hlt]
      clear ib h
      go_enter Tryz.func168, Tryz.ntmps168
      go_wp2
      go_ret
      exact ⟨hB0, rfl, by have := (HB.out 0).1; exact this⟩
    · have hd1 : decide ((a : Int) ≥ (T.size : Int)) = true := by simp; omega
      have hd2 : decide ((T.size : Int) ≤ (a : Int)) = true := by simp; omega
      have hd3 : decide (T.size ≤ a) = true := by simp; omega
      simp only [if_neg hlt]
      clear ib h
      go_enter Tryz.func168, Tryz.ntmps168
      go_wp2_with fail
      refine (wrong_any 4 HRM.out).mono ?_; rintro e w1 ⟨rfl, hr, hb⟩
      rw [HE4.out] at hr
      have HR := Lib.hid hr
      go_wp2_with fail
      go_ret
      exact ⟨hb, rfl, HR.out⟩
  · have hd0 : decide ((p : Int) ≥ 0) = true := by simp
    have hpl : p < P.length := (List.getElem?_eq_some_iff.1 hpT).1
    obtain ⟨b, off, rfl, _, hc⟩ := hpieces.2 (by omega)
    have dp := hc p (.string T) (by simp [strs, hpT])
    clear hc hpieces hpT
    by_cases hlt : a < T.size
    · have ib' := ib hlt
      have hd1 : decide ((a : Int) ≥ (T.size : Int)) = false := by simp; omega
      have hd2 : decide ((T.size : Int) ≤ (a : Int)) = false := by simp; omega
      have hd3 : decide (T.size ≤ a) = false := by simp; omega
      simp only [if_pos hlt]
      clear ib h
      go_enter Tryz.func168, Tryz.ntmps168
      go_wp2
      go_quiet (fail)
      go_wp2
      go_ret
      exact ⟨(hD nq).trans (HB.out nq).2, rfl, (HB.out nq).1⟩
    · have hd1 : decide ((a : Int) ≥ (T.size : Int)) = true := by simp; omega
      have hd2 : decide ((T.size : Int) ≤ (a : Int)) = true := by simp; omega
      have hd3 : decide (T.size ≤ a) = true := by simp; omega
      simp only [if_neg hlt]
      clear ib h
      go_enter Tryz.func168, Tryz.ntmps168
      go_wp2_with fail
      go_quiet (fail)
      go_wp2_with fail
      refine (wrong_any 4 (HRM.out.below (bdrewN (Below.refl _ _) _))).mono ?_; rintro e w1 ⟨rfl, hr, hb⟩
      rw [HE4.out] at hr
      have HR := Lib.hid hr
      have hb' : Below g w w1 := (hD _).trans hb
      go_wp2_with fail
      go_ret
      exact ⟨hb', rfl, HR.out⟩
end Go.Proofs.YtdfkbbcoolgfiaaGreat

namespace Go.Proofs.YtdfkbbcoolgfiaaGreat
open Go.RowKit Go.BigFrame

theorem or64 {a b : Nat} (ha : a < 65536) (hb : b < 65536) : bits .or .i64 (a : Int) (b : Int) = ((a ||| b : Nat) : Int) := by
  have hx : a ||| b < 2 ^ 16 := Nat.or_lt_two_pow (by omega) (by omega)
  show IntKind.i64.wrap ((BitVec.ofInt 64 (a : Int) ||| BitVec.ofInt 64 (b : Int)).toNat : Int) = _
  have q : ∀ c : Nat, c < 65536 → (BitVec.ofInt 64 (c : Int)).toNat = c := fun c hc => by rw [BitVec.ofInt_natCast, BitVec.toNat_ofNat]; exact Nat.mod_eq_of_lt (by omega)
  rw [BitVec.toNat_or, q a ha, q b hb]
  exact IntWalk.i64_in _ (by omega)
theorem or_word {c d : Nat} (hc : c < 256) (hd : d < 256) : bits .or .i64 ((c : Int) * 256) (d : Int) = (c : Int) * 256 + d := by
  have e1 : ((c : Int) * 256) = ((c * 256 : Nat) : Int) := by simp
  have e2 : c * 256 ||| d = c * 256 + d := by
    have := Nat.shiftLeft_add_eq_or_of_lt (i := 8) (b := d) (by omega) c
    rw [Nat.shiftLeft_eq] at this
    exact this.symm
  rw [e1, or64 (by omega) (by omega), e2]
  simp
theorem i16_is {z : Int} (h : 0 ≤ z ∧ z < 65536) : IntKind.i16.wrap z = i16 z := by
  unfold i16
  simp only [IntKind.wrap, IntKind.signed, IntKind.bits]
  simp
  split <;> omega
/-- What went wrong is told. -/
def RX (w : World) (g : Nat) (e : Int) : Prop := g < w.heap.size ∧ w.cell? ⟨g, 12, none⟩ = some (.int .i64 e)
section
variable {w w' : World} {g : Nat} {P : List ByteArray} {main : ByteArray} {F F0 : List (Int × Nat)} {M : GM} {er : Int}
theorem RM.x (h : RM w g P main F M er) : RX w g er := by
  obtain ⟨ρ, Ap, cp, Ai, ci, Aa, ca, Aw, cw, Al, cl, h⟩ := h
  exact ⟨h.rc.lt, h.rc.c 12 _ rfl⟩
/-- A number more waits. -/
theorem RAt.push {ρ : Nat → Nat} {Ap Ai Aa Aw Al A : Option Addr} {cp ci ca cw cl c n : Nat} {v : Int} (h : RAt w g P main F M er ρ Ap cp Ai ci Aa ca Aw cw Al cl) (hn : M.wait.length = n) (hg : w.grownBy w' (Value.slice Aw n cw).ownBlock)
    (ho : w'.ownsRow (g + 1) 3 1 (.slice A (n + 1) c) (n + 1) (ints M.wait ++ [.int .i64 v])) (hat : (Value.slice A (n + 1) c).ownBlock = (Value.slice Aw n cw).ownBlock ∨ (Value.slice A (n + 1) c).ownBlock = some w.heap.size) :
    RM (w'.setCell ⟨g, 4, none⟩ (.slice A (n + 1) c)) g P main F { M with wait := M.wait ++ [v] } er ∧ Below g w (w'.setCell ⟨g, 4, none⟩ (.slice A (n + 1) c)) := by
  subst hn
  have hgl : ∀ k, (Value.slice Aw M.wait.length cw).ownBlock = some k → g < k := fun k hk => by have := (h.rr.hw.lt k hk).1; omega
  obtain ⟨ρ', hr⟩ := h.rr.rowW (xs' := M.wait ++ [v]) hg (by rw [List.length_append, ints_snoc]; exact ho) hat
  have h1 := (h.rc.off hg hgl).set 4 (.slice A (M.wait.length + 1) c) (by simp [rcv])
  refine ⟨⟨ρ', Ap, cp, Ai, ci, Aa, ca, A, c, Al, cl, ?_, ?_, h.lc⟩, ?_⟩
  · simp only [List.length_append, List.length_singleton]; exact h1
  · simp only [List.length_append, List.length_singleton]; exact hr.own1 set_own
  · exact ((Below.refl g w).grown hg (Nat.le_of_lt h.rc.lt) (fun k hk => Nat.le_of_lt (hgl k hk))).setCell (p := ⟨g, 4, none⟩) (Nat.le_refl g) _
theorem RAt.gblk {ρ : Nat → Nat} {Ap Ai Aa Aw Al : Option Addr} {cp ci ca cw cl n : Nat} (h : RAt w g P main F M er ρ Ap cp Ai ci Aa ca Aw cw Al cl) (hn : M.wait.length = n) (hg : w.grownBy w' (Value.slice Aw n cw).ownBlock) :
    (∀ i, w'.cell? ⟨g, i, none⟩ = w.cell? ⟨g, i, none⟩) ∧ ∀ i, w'.frozen? ⟨g, i, none⟩ = false := by
  subst hn
  have hbg := hg.block g h.rc.lt fun e => by have := (h.rr.hw.lt g e.symm).1; omega
  exact ⟨fun i => World.cell?_of_block (a := ⟨g, i, none⟩) hbg, fun i => (World.frozen?_of_block (a := ⟨g, i, none⟩) hbg).trans (h.rc.nf i)⟩
end
/-- A number's reading, as told. -/
def NumP (T : ByteArray) (a : Nat) (m : Nat) (v : Int) (n : Nat) (er : Int) : Prop :=
  match numG ((bl T).drop a) with
  | none => er = 4
  | some (v', n') => if m = 24 then er = 8 else er = 0 ∧ v = v' ∧ n = n'
def TailP (g : Nat) (P : List ByteArray) (main : ByteArray) (F : List (Int × Nat)) (M : GM) (er v : Int) (w : World) (e : Ending) (w' : World) : Prop :=
  e = .returned (.tuple #[]) ∧ Below g w w' ∧ RM w' g P main F { M with wait := M.wait ++ [v] } (if er = 0 then (if M.wait.length = 24 then 8 else 0) else er)

theorem bl_drop {T : ByteArray} {a : Nat} (h : a < T.size) : (bl T).drop a = byt T a :: (bl T).drop (a + 1) := by
  have h0 : a < (bl T).length := by rw [bl_len]; exact h
  rw [List.drop_eq_getElem_cons h0]
  unfold byt
  rw [List.getElem?_eq_getElem h0]; rfl
theorem bl_drop0 {T : ByteArray} {a : Nat} (h : T.size ≤ a) : (bl T).drop a = [] := List.drop_eq_nil_of_le (by rw [bl_len]; exact h)

set_option maxRecDepth 100000 in
set_option maxHeartbeats 1000000 in
/-- Below 247: the byte itself. -/
theorem number_short (g : Nat) (P : List ByteArray) (main : ByteArray) (F : List (Int × Nat)) (M : GM) (b : Nat) (w : World) (h : RM w g P main F M 0) (hb : 32 ≤ b ∧ b ≤ 246) (h24 : M.wait.length ≤ 24) :
    Calls Tryz.prog 169 #[.pointer (some ⟨g, 0, none⟩), .int .i64 (b : Int)] w (TailP g P main F M 0 ((b : Int) - 139) w) := by
  obtain ⟨m, hm⟩ : ∃ m, M.wait.length = m := ⟨_, rfl⟩
  rw [hm] at h24
  have hb1 : ((b : Int) == 255) = false := by simp; omega
  have hb2 : decide ((b : Int) ≥ 251) = false := by simp; omega
  have hb3 : decide ((b : Int) ≥ 247) = false := by simp; omega
  have h0 := Below.refl g w
  go_enter Tryz.func169, Tryz.ntmps169
  have HRM := Lib.hid h
  have HBS := Lib.hid h0
  obtain ⟨ρ, Ap, cp, Ai, ci, Aa, ca, Aw, cw, Al, cl, hM⟩ := h
  have c12 := hM.rc.c 12 _ rfl
  have c4 := hM.rc.c 4 _ rfl
  have nf4 := hM.rc.nf 4
  have hltM := hM.rc.lt
  have hownM := hM.rr.hw
  rw [hm] at c4 hownM
  have HM1 := Lib.hid hM
  clear hM
  by_cases he : m = 24
  · subst he
    clear hownM
    go_wp2_with fail
    refine (wrong_any 8 HRM.out).mono ?_; rintro e wz ⟨rfl, hr, hbz⟩
    clear c12 c4 nf4 hltM HM1
    obtain ⟨ρ, Ap, cp, Ai, ci, Aa, ca, Aw, cw, Al, cl, hM⟩ := hr
    have c12 := hM.rc.c 12 _ rfl
    have c4 := hM.rc.c 4 _ rfl
    have nf4 := hM.rc.nf 4
    have hltM := hM.rc.lt
    have hownM := hM.rr.hw
    rw [hm] at c4 hownM
    have HM1 := Lib.hid hM
    clear hM
    go_wp2_with ((at_builtin; refine wpList_app rfl _ _ 28 rfl (g + 1) ciT rfl (own_below hownM (bal (Below.refl _ _) _)) (ints [(b : Int) - 139]) rfl (sl_new _ rfl rfl) (oneCell_ints [(b : Int) - 139]) (by omega) (Nat.le_trans hltM (bal (Below.refl _ _) _).size) ?_; intro A2 c2 w2 hown2 hg2 hat2; have hMa := HM1.out.below (bal (Below.refl _ _) (.cells #[.int .i64 ((b : Int) - 139)] 3)); obtain ⟨cg, fg⟩ := hMa.gblk hm hg2; have d4 := (cg 4).trans (hMa.rc.c 4 _ rfl); have f4 := fg 4; rw [hm] at d4; have HMA := Lib.hid hMa; clear hMa cg fg))
    go_end0
    have q := HMA.out.push (v := (b : Int) - 139) hm hg2 hown2 hat2
    refine ⟨rfl, ?_, ?_⟩
    · exact (HBS.out.trans hbz).trans (((bal (Below.refl _ _) _ : Below wz.heap.size wz _).mono (Nat.le_of_lt hltM)).trans q.2)
    · rw [if_pos rfl, if_pos hm]; exact q.1
  · have hd1 : decide ((m : Int) ≥ 24) = false := by simp; omega
    go_wp2_with ((at_builtin; refine wpList_app rfl _ _ 28 rfl (g + 1) ciT rfl (own_below hownM (bal (Below.refl _ _) _)) (ints [(b : Int) - 139]) rfl (sl_new _ rfl rfl) (oneCell_ints [(b : Int) - 139]) (by omega) (Nat.le_trans hltM (bal (Below.refl _ _) _).size) ?_; intro A2 c2 w2 hown2 hg2 hat2; have hMa := HM1.out.below (bal (Below.refl _ _) (.cells #[.int .i64 ((b : Int) - 139)] 3)); obtain ⟨cg, fg⟩ := hMa.gblk hm hg2; have d4 := (cg 4).trans (hMa.rc.c 4 _ rfl); have f4 := fg 4; rw [hm] at d4; have HMA := Lib.hid hMa; clear hMa cg fg))
    go_end0
    have q := HMA.out.push (v := (b : Int) - 139) hm hg2 hown2 hat2
    refine ⟨rfl, ?_, ?_⟩
    · exact HBS.out.trans (((bal (Below.refl _ _) _ : Below _ _ _).mono (Nat.le_of_lt hltM)).trans q.2)
    · rw [if_pos rfl, if_neg (by omega)]; exact q.1
set_option maxRecDepth 100000 in
set_option maxHeartbeats 1000000 in
/-- 247 to 254: a byte more. -/
theorem number_two (g : Nat) (P : List ByteArray) (main : ByteArray) (F0 : List (Int × Nat)) (i : Int) (a : Nat) (M : GM) (T : ByteArray) (b : Nat) (w : World) (h : RM w g P main (F0 ++ [(i, a)]) M 0) (hb : 247 ≤ b ∧ b ≤ 254) (h24 : M.wait.length ≤ 24)
    (hT : PcOf P main i T) (hts : T.size ≤ 1000000) (ha : a ≤ T.size) (hF : F0.length ≤ 10) :
    Calls Tryz.prog 169 #[.pointer (some ⟨g, 0, none⟩), .int .i64 (b : Int)] w fun e w' =>
      if a < T.size then TailP g P main (F0 ++ [(i, a + 1)]) M 0 (if b ≤ 250 then 256 * ((b : Int) - 247) + (byt T a : Int) + 108 else -256 * ((b : Int) - 251) - (byt T a : Int) - 108) w e w' else ∃ v, TailP g P main (F0 ++ [(i, a)]) M 4 v w e w' := by
  obtain ⟨m, hm⟩ : ∃ m, M.wait.length = m := ⟨_, rfl⟩
  rw [hm] at h24
  have HN := Lib.hid (next_any g P main F0 i a M 0 T w h hT hts ha hF)
  have hbyt := byt_lt T a
  obtain ⟨c, hc⟩ : ∃ c, byt T a = c := ⟨_, rfl⟩
  rw [hc] at hbyt
  simp only [hc] at HN ⊢
  have hb1 : ((b : Int) == 255) = false := by simp; omega
  clear hc
  by_cases h5 : b ≤ 250
  · have hb2 : decide ((b : Int) ≥ 251) = false := by simp; omega
    have hb3 : decide ((b : Int) ≥ 247) = true := by simp; omega
    simp only [if_pos h5]
    go_enter Tryz.func169, Tryz.ntmps169
    go_wp2_with fail
    refine HN.out.mono ?_; rintro e w1 ⟨hB1, hr1⟩
    by_cases hlt : a < T.size
    · simp only [if_pos hlt] at hr1 ⊢
      obtain ⟨rfl, hr1⟩ := hr1
      have HRM := Lib.hid hr1
      have HBS := Lib.hid hB1
      obtain ⟨ρ, Ap, cp, Ai, ci, Aa, ca, Aw, cw, Al, cl, hM⟩ := hr1
      have c12 := hM.rc.c 12 _ rfl
      have c4 := hM.rc.c 4 _ rfl
      have nf4 := hM.rc.nf 4
      have hltM := hM.rc.lt
      have hownM := hM.rr.hw
      rw [hm] at c4 hownM
      have HM1 := Lib.hid hM
      clear hM
      by_cases he : m = 24
      · subst he
        clear hownM
        go_wp2_with fail
        refine (wrong_any 8 HRM.out).mono ?_; rintro e wz ⟨rfl, hr, hbz⟩
        clear c12 c4 nf4 hltM HM1
        obtain ⟨ρ, Ap, cp, Ai, ci, Aa, ca, Aw, cw, Al, cl, hM⟩ := hr
        have c12 := hM.rc.c 12 _ rfl
        have c4 := hM.rc.c 4 _ rfl
        have nf4 := hM.rc.nf 4
        have hltM := hM.rc.lt
        have hownM := hM.rr.hw
        rw [hm] at c4 hownM
        have HM1 := Lib.hid hM
        clear hM
        go_wp2_with ((at_builtin; refine wpList_app rfl _ _ 28 rfl (g + 1) ciT rfl (own_below hownM (bal (Below.refl _ _) _)) (ints [256 * ((b : Int) - 247) + (c : Int) + 108]) rfl (sl_new _ rfl rfl) (oneCell_ints [256 * ((b : Int) - 247) + (c : Int) + 108]) (by omega) (Nat.le_trans hltM (bal (Below.refl _ _) _).size) ?_; intro A2 c2 w2 hown2 hg2 hat2; have hMa := HM1.out.below (bal (Below.refl _ _) (.cells #[.int .i64 (256 * ((b : Int) - 247) + (c : Int) + 108)] 3)); obtain ⟨cg, fg⟩ := hMa.gblk hm hg2; have d4 := (cg 4).trans (hMa.rc.c 4 _ rfl); have f4 := fg 4; rw [hm] at d4; have HMA := Lib.hid hMa; clear hMa cg fg))
        go_end0
        have q := HMA.out.push (v := 256 * ((b : Int) - 247) + (c : Int) + 108) hm hg2 hown2 hat2
        refine ⟨rfl, ?_, ?_⟩
        · exact (HBS.out.trans hbz).trans (((bal (Below.refl _ _) _ : Below wz.heap.size wz _).mono (Nat.le_of_lt hltM)).trans q.2)
        · rw [if_pos rfl, if_pos hm]; exact q.1
      · have hd1 : decide ((m : Int) ≥ 24) = false := by simp; omega
        go_wp2_with ((at_builtin; refine wpList_app rfl _ _ 28 rfl (g + 1) ciT rfl (own_below hownM (bal (Below.refl _ _) _)) (ints [256 * ((b : Int) - 247) + (c : Int) + 108]) rfl (sl_new _ rfl rfl) (oneCell_ints [256 * ((b : Int) - 247) + (c : Int) + 108]) (by omega) (Nat.le_trans hltM (bal (Below.refl _ _) _).size) ?_; intro A2 c2 w2 hown2 hg2 hat2; have hMa := HM1.out.below (bal (Below.refl _ _) (.cells #[.int .i64 (256 * ((b : Int) - 247) + (c : Int) + 108)] 3)); obtain ⟨cg, fg⟩ := hMa.gblk hm hg2; have d4 := (cg 4).trans (hMa.rc.c 4 _ rfl); have f4 := fg 4; rw [hm] at d4; have HMA := Lib.hid hMa; clear hMa cg fg))
        go_end0
        have q := HMA.out.push (v := 256 * ((b : Int) - 247) + (c : Int) + 108) hm hg2 hown2 hat2
        refine ⟨rfl, ?_, ?_⟩
        · exact HBS.out.trans (((bal (Below.refl _ _) _ : Below _ _ _).mono (Nat.le_of_lt hltM)).trans q.2)
        · rw [if_pos rfl, if_neg (by omega)]; exact q.1
    · simp only [if_neg hlt] at hr1 ⊢
      obtain ⟨rfl, hr1⟩ := hr1
      simp only [if_true] at hr1
      have HRM := Lib.hid hr1
      have HBS := Lib.hid hB1
      obtain ⟨ρ, Ap, cp, Ai, ci, Aa, ca, Aw, cw, Al, cl, hM⟩ := hr1
      have c12 := hM.rc.c 12 _ rfl
      have c4 := hM.rc.c 4 _ rfl
      have nf4 := hM.rc.nf 4
      have hltM := hM.rc.lt
      have hownM := hM.rr.hw
      rw [hm] at c4 hownM
      have HM1 := Lib.hid hM
      clear hM
      go_wp2_with ((at_builtin; refine wpList_app rfl _ _ 28 rfl (g + 1) ciT rfl (own_below hownM (bal (Below.refl _ _) _)) (ints [256 * ((b : Int) - 247) + 108]) rfl (sl_new _ rfl rfl) (oneCell_ints [256 * ((b : Int) - 247) + 108]) (by omega) (Nat.le_trans hltM (bal (Below.refl _ _) _).size) ?_; intro A2 c2 w2 hown2 hg2 hat2; have hMa := HM1.out.below (bal (Below.refl _ _) (.cells #[.int .i64 (256 * ((b : Int) - 247) + 108)] 3)); obtain ⟨cg, fg⟩ := hMa.gblk hm hg2; have d4 := (cg 4).trans (hMa.rc.c 4 _ rfl); have f4 := fg 4; rw [hm] at d4; have HMA := Lib.hid hMa; clear hMa cg fg))
      go_end0
      have q := HMA.out.push (v := 256 * ((b : Int) - 247) + 108) hm hg2 hown2 hat2
      refine ⟨256 * ((b : Int) - 247) + 108,  rfl, ?_, ?_⟩
      · exact HBS.out.trans (((bal (Below.refl _ _) _ : Below _ _ _).mono (Nat.le_of_lt hltM)).trans q.2)
      · rw [if_neg (by omega)]; exact q.1
  · have hb2 : decide ((b : Int) ≥ 251) = true := by simp; omega
    simp only [if_neg h5]
    go_enter Tryz.func169, Tryz.ntmps169
    go_wp2_with fail
    refine HN.out.mono ?_; rintro e w1 ⟨hB1, hr1⟩
    by_cases hlt : a < T.size
    · simp only [if_pos hlt] at hr1 ⊢
      obtain ⟨rfl, hr1⟩ := hr1
      have HRM := Lib.hid hr1
      have HBS := Lib.hid hB1
      obtain ⟨ρ, Ap, cp, Ai, ci, Aa, ca, Aw, cw, Al, cl, hM⟩ := hr1
      have c12 := hM.rc.c 12 _ rfl
      have c4 := hM.rc.c 4 _ rfl
      have nf4 := hM.rc.nf 4
      have hltM := hM.rc.lt
      have hownM := hM.rr.hw
      rw [hm] at c4 hownM
      have HM1 := Lib.hid hM
      clear hM
      by_cases he : m = 24
      · subst he
        clear hownM
        go_wp2_with fail
        refine (wrong_any 8 HRM.out).mono ?_; rintro e wz ⟨rfl, hr, hbz⟩
        clear c12 c4 nf4 hltM HM1
        obtain ⟨ρ, Ap, cp, Ai, ci, Aa, ca, Aw, cw, Al, cl, hM⟩ := hr
        have c12 := hM.rc.c 12 _ rfl
        have c4 := hM.rc.c 4 _ rfl
        have nf4 := hM.rc.nf 4
        have hltM := hM.rc.lt
        have hownM := hM.rr.hw
        rw [hm] at c4 hownM
        have HM1 := Lib.hid hM
        clear hM
        go_wp2_with ((at_builtin; refine wpList_app rfl _ _ 28 rfl (g + 1) ciT rfl (own_below hownM (bal (Below.refl _ _) _)) (ints [-256 * ((b : Int) - 251) - (c : Int) - 108]) rfl (sl_new _ rfl rfl) (oneCell_ints [-256 * ((b : Int) - 251) - (c : Int) - 108]) (by omega) (Nat.le_trans hltM (bal (Below.refl _ _) _).size) ?_; intro A2 c2 w2 hown2 hg2 hat2; have hMa := HM1.out.below (bal (Below.refl _ _) (.cells #[.int .i64 (-256 * ((b : Int) - 251) - (c : Int) - 108)] 3)); obtain ⟨cg, fg⟩ := hMa.gblk hm hg2; have d4 := (cg 4).trans (hMa.rc.c 4 _ rfl); have f4 := fg 4; rw [hm] at d4; have HMA := Lib.hid hMa; clear hMa cg fg))
        go_end0
        have q := HMA.out.push (v := -256 * ((b : Int) - 251) - (c : Int) - 108) hm hg2 hown2 hat2
        refine ⟨rfl, ?_, ?_⟩
        · exact (HBS.out.trans hbz).trans (((bal (Below.refl _ _) _ : Below wz.heap.size wz _).mono (Nat.le_of_lt hltM)).trans q.2)
        · rw [if_pos rfl, if_pos hm]; exact q.1
      · have hd1 : decide ((m : Int) ≥ 24) = false := by simp; omega
        go_wp2_with ((at_builtin; refine wpList_app rfl _ _ 28 rfl (g + 1) ciT rfl (own_below hownM (bal (Below.refl _ _) _)) (ints [-256 * ((b : Int) - 251) - (c : Int) - 108]) rfl (sl_new _ rfl rfl) (oneCell_ints [-256 * ((b : Int) - 251) - (c : Int) - 108]) (by omega) (Nat.le_trans hltM (bal (Below.refl _ _) _).size) ?_; intro A2 c2 w2 hown2 hg2 hat2; have hMa := HM1.out.below (bal (Below.refl _ _) (.cells #[.int .i64 (-256 * ((b : Int) - 251) - (c : Int) - 108)] 3)); obtain ⟨cg, fg⟩ := hMa.gblk hm hg2; have d4 := (cg 4).trans (hMa.rc.c 4 _ rfl); have f4 := fg 4; rw [hm] at d4; have HMA := Lib.hid hMa; clear hMa cg fg))
        go_end0
        have q := HMA.out.push (v := -256 * ((b : Int) - 251) - (c : Int) - 108) hm hg2 hown2 hat2
        refine ⟨rfl, ?_, ?_⟩
        · exact HBS.out.trans (((bal (Below.refl _ _) _ : Below _ _ _).mono (Nat.le_of_lt hltM)).trans q.2)
        · rw [if_pos rfl, if_neg (by omega)]; exact q.1
    · simp only [if_neg hlt] at hr1 ⊢
      obtain ⟨rfl, hr1⟩ := hr1
      simp only [if_true] at hr1
      have HRM := Lib.hid hr1
      have HBS := Lib.hid hB1
      obtain ⟨ρ, Ap, cp, Ai, ci, Aa, ca, Aw, cw, Al, cl, hM⟩ := hr1
      have c12 := hM.rc.c 12 _ rfl
      have c4 := hM.rc.c 4 _ rfl
      have nf4 := hM.rc.nf 4
      have hltM := hM.rc.lt
      have hownM := hM.rr.hw
      rw [hm] at c4 hownM
      have HM1 := Lib.hid hM
      clear hM
      go_wp2_with ((at_builtin; refine wpList_app rfl _ _ 28 rfl (g + 1) ciT rfl (own_below hownM (bal (Below.refl _ _) _)) (ints [-256 * ((b : Int) - 251) - 108]) rfl (sl_new _ rfl rfl) (oneCell_ints [-256 * ((b : Int) - 251) - 108]) (by omega) (Nat.le_trans hltM (bal (Below.refl _ _) _).size) ?_; intro A2 c2 w2 hown2 hg2 hat2; have hMa := HM1.out.below (bal (Below.refl _ _) (.cells #[.int .i64 (-256 * ((b : Int) - 251) - 108)] 3)); obtain ⟨cg, fg⟩ := hMa.gblk hm hg2; have d4 := (cg 4).trans (hMa.rc.c 4 _ rfl); have f4 := fg 4; rw [hm] at d4; have HMA := Lib.hid hMa; clear hMa cg fg))
      go_end0
      have q := HMA.out.push (v := -256 * ((b : Int) - 251) - 108) hm hg2 hown2 hat2
      refine ⟨-256 * ((b : Int) - 251) - 108,  rfl, ?_, ?_⟩
      · exact HBS.out.trans (((bal (Below.refl _ _) _ : Below _ _ _).mono (Nat.le_of_lt hltM)).trans q.2)
      · rw [if_neg (by omega)]; exact q.1
set_option maxRecDepth 100000 in
set_option maxHeartbeats 1000000 in
/-- 255: two bytes more. -/
theorem number_three (g : Nat) (P : List ByteArray) (main : ByteArray) (F0 : List (Int × Nat)) (i : Int) (a : Nat) (M : GM) (T : ByteArray) (w : World) (h : RM w g P main (F0 ++ [(i, a)]) M 0) (h24 : M.wait.length ≤ 24)
    (hT : PcOf P main i T) (hts : T.size ≤ 1000000) (ha : a ≤ T.size) (hF : F0.length ≤ 10) :
    Calls Tryz.prog 169 #[.pointer (some ⟨g, 0, none⟩), .int .i64 255] w fun e w' =>
      if a + 1 < T.size then TailP g P main (F0 ++ [(i, a + 2)]) M 0 (i16 ((byt T a : Int) * 256 + (byt T (a + 1) : Int))) w e w' else ∃ v a', TailP g P main (F0 ++ [(i, a')]) M 4 v w e w' := by
  obtain ⟨m, hm⟩ : ∃ m, M.wait.length = m := ⟨_, rfl⟩
  rw [hm] at h24
  have HN := Lib.hid (next_any g P main F0 i a M 0 T w h hT hts ha hF)
  have HN2 := Lib.hid (fun W er (h1 : RM W g P main (F0 ++ [(i, a)]) M er) => next_any g P main F0 i a M er T W h1 hT hts ha hF)
  have HN3 := Lib.hid (fun W er (h1 : RM W g P main (F0 ++ [(i, a + 1)]) M er) (hlt : a < T.size) => next_any g P main F0 i (a + 1) M er T W h1 hT hts (by omega) hF)
  have hbyt := byt_lt T a
  have hbyt2 := byt_lt T (a + 1)
  obtain ⟨c, hc⟩ : ∃ c, byt T a = c := ⟨_, rfl⟩
  obtain ⟨d, hd⟩ : ∃ c, byt T (a + 1) = c := ⟨_, rfl⟩
  rw [hc] at hbyt
  rw [hd] at hbyt2
  simp only [hc] at HN HN2 ⊢
  simp only [hd] at HN3 ⊢
  clear hc hd
  go_enter Tryz.func169, Tryz.ntmps169
  go_wp2_with fail
  refine HN.out.mono ?_; rintro e w1 ⟨hB1, hr1⟩
  by_cases hlt : a < T.size
  · simp only [if_pos hlt] at hr1
    obtain ⟨rfl, hr1⟩ := hr1
    go_wp2_with fail
    refine (HN3.out _ _ hr1 hlt).mono ?_; rintro e w2 ⟨hB2, hr2⟩
    have hB3 := hB1.trans hB2
    by_cases hlt2 : a + 1 < T.size
    · simp only [if_pos hlt2] at hr2 ⊢
      obtain ⟨rfl, hr2⟩ := hr2
      have w1' := or_word hbyt hbyt2
      have w2' : IntKind.u16.wrap ((c : Int) * 256 + (d : Int)) = (c : Int) * 256 + (d : Int) := by simp only [IntKind.wrap, IntKind.signed, IntKind.bits]; simp; omega
      have w3' := i16_is (z := (c : Int) * 256 + (d : Int)) (by omega)
      have w4' : wrap64 (i16 ((c : Int) * 256 + (d : Int))) = i16 ((c : Int) * 256 + (d : Int)) := IntWalk.wrap64_in _ (by unfold i16; split <;> omega)
      have HRM := Lib.hid hr2
      have HBS := Lib.hid hB3
      obtain ⟨ρ, Ap, cp, Ai, ci, Aa, ca, Aw, cw, Al, cl, hM⟩ := hr2
      have c12 := hM.rc.c 12 _ rfl
      have c4 := hM.rc.c 4 _ rfl
      have nf4 := hM.rc.nf 4
      have hltM := hM.rc.lt
      have hownM := hM.rr.hw
      rw [hm] at c4 hownM
      have HM1 := Lib.hid hM
      clear hM
      by_cases he : m = 24
      · subst he
        clear hownM
        go_wp2_with fail
        refine (wrong_any 8 HRM.out).mono ?_; rintro e wz ⟨rfl, hr, hbz⟩
        clear c12 c4 nf4 hltM HM1
        obtain ⟨ρ, Ap, cp, Ai, ci, Aa, ca, Aw, cw, Al, cl, hM⟩ := hr
        have c12 := hM.rc.c 12 _ rfl
        have c4 := hM.rc.c 4 _ rfl
        have nf4 := hM.rc.nf 4
        have hltM := hM.rc.lt
        have hownM := hM.rr.hw
        rw [hm] at c4 hownM
        have HM1 := Lib.hid hM
        clear hM
        go_wp2_with ((at_builtin; refine wpList_app rfl _ _ 28 rfl (g + 1) ciT rfl (own_below hownM (bal (Below.refl _ _) _)) (ints [i16 ((c : Int) * 256 + (d : Int))]) rfl (sl_new _ rfl rfl) (oneCell_ints [i16 ((c : Int) * 256 + (d : Int))]) (by omega) (Nat.le_trans hltM (bal (Below.refl _ _) _).size) ?_; intro A2 c2 w2 hown2 hg2 hat2; have hMa := HM1.out.below (bal (Below.refl _ _) (.cells #[.int .i64 (i16 ((c : Int) * 256 + (d : Int)))] 3)); obtain ⟨cg, fg⟩ := hMa.gblk hm hg2; have d4 := (cg 4).trans (hMa.rc.c 4 _ rfl); have f4 := fg 4; rw [hm] at d4; have HMA := Lib.hid hMa; clear hMa cg fg))
        go_end0
        have q := HMA.out.push (v := i16 ((c : Int) * 256 + (d : Int))) hm hg2 hown2 hat2
        refine ⟨rfl, ?_, ?_⟩
        · exact (HBS.out.trans hbz).trans (((bal (Below.refl _ _) _ : Below wz.heap.size wz _).mono (Nat.le_of_lt hltM)).trans q.2)
        · rw [if_pos rfl, if_pos hm]; exact q.1
      · have hd1 : decide ((m : Int) ≥ 24) = false := by simp; omega
        go_wp2_with ((at_builtin; refine wpList_app rfl _ _ 28 rfl (g + 1) ciT rfl (own_below hownM (bal (Below.refl _ _) _)) (ints [i16 ((c : Int) * 256 + (d : Int))]) rfl (sl_new _ rfl rfl) (oneCell_ints [i16 ((c : Int) * 256 + (d : Int))]) (by omega) (Nat.le_trans hltM (bal (Below.refl _ _) _).size) ?_; intro A2 c2 w2 hown2 hg2 hat2; have hMa := HM1.out.below (bal (Below.refl _ _) (.cells #[.int .i64 (i16 ((c : Int) * 256 + (d : Int)))] 3)); obtain ⟨cg, fg⟩ := hMa.gblk hm hg2; have d4 := (cg 4).trans (hMa.rc.c 4 _ rfl); have f4 := fg 4; rw [hm] at d4; have HMA := Lib.hid hMa; clear hMa cg fg))
        go_end0
        have q := HMA.out.push (v := i16 ((c : Int) * 256 + (d : Int))) hm hg2 hown2 hat2
        refine ⟨rfl, ?_, ?_⟩
        · exact HBS.out.trans (((bal (Below.refl _ _) _ : Below _ _ _).mono (Nat.le_of_lt hltM)).trans q.2)
        · rw [if_pos rfl, if_neg (by omega)]; exact q.1
    · simp only [if_neg hlt2] at hr2 ⊢
      obtain ⟨rfl, hr2⟩ := hr2
      simp only [if_true] at hr2
      have w1' : bits .or .i64 ((c : Int) * 256) 0 = (c : Int) * 256 := by have := or_word (d := 0) hbyt (by omega); simpa using this
      have w2' : IntKind.u16.wrap ((c : Int) * 256) = (c : Int) * 256 := by simp only [IntKind.wrap, IntKind.signed, IntKind.bits]; simp; omega
      have w3' := i16_is (z := (c : Int) * 256) (by omega)
      have w4' : wrap64 (i16 ((c : Int) * 256)) = i16 ((c : Int) * 256) := IntWalk.wrap64_in _ (by unfold i16; split <;> omega)
      have HRM := Lib.hid hr2
      have HBS := Lib.hid hB3
      obtain ⟨ρ, Ap, cp, Ai, ci, Aa, ca, Aw, cw, Al, cl, hM⟩ := hr2
      have c12 := hM.rc.c 12 _ rfl
      have c4 := hM.rc.c 4 _ rfl
      have nf4 := hM.rc.nf 4
      have hltM := hM.rc.lt
      have hownM := hM.rr.hw
      rw [hm] at c4 hownM
      have HM1 := Lib.hid hM
      clear hM
      go_wp2_with ((at_builtin; refine wpList_app rfl _ _ 28 rfl (g + 1) ciT rfl (own_below hownM (bal (Below.refl _ _) _)) (ints [i16 ((c : Int) * 256)]) rfl (sl_new _ rfl rfl) (oneCell_ints [i16 ((c : Int) * 256)]) (by omega) (Nat.le_trans hltM (bal (Below.refl _ _) _).size) ?_; intro A2 c2 w2 hown2 hg2 hat2; have hMa := HM1.out.below (bal (Below.refl _ _) (.cells #[.int .i64 (i16 ((c : Int) * 256))] 3)); obtain ⟨cg, fg⟩ := hMa.gblk hm hg2; have d4 := (cg 4).trans (hMa.rc.c 4 _ rfl); have f4 := fg 4; rw [hm] at d4; have HMA := Lib.hid hMa; clear hMa cg fg))
      go_end0
      have q := HMA.out.push (v := i16 ((c : Int) * 256)) hm hg2 hown2 hat2
      refine ⟨i16 ((c : Int) * 256), a + 1, rfl, ?_, ?_⟩
      · exact HBS.out.trans (((bal (Below.refl _ _) _ : Below _ _ _).mono (Nat.le_of_lt hltM)).trans q.2)
      · rw [if_neg (by omega)]; exact q.1
  · simp only [if_neg hlt] at hr1
    obtain ⟨rfl, hr1⟩ := hr1
    simp only [if_true] at hr1
    have hlt2 : ¬ a + 1 < T.size := by omega
    go_wp2_with fail
    refine (HN2.out _ _ hr1).mono ?_; rintro e w2 ⟨hB2, hr2⟩
    have hB3 := hB1.trans hB2
    simp only [if_neg hlt] at hr2
    obtain ⟨rfl, hr2⟩ := hr2
    have hr3 : RM w2 g P main (F0 ++ [(i, a)]) M 4 := by simpa using hr2
    have w1' : bits .or .i64 0 0 = 0 := by decide +kernel
    have HRM := Lib.hid hr3
    have HBS := Lib.hid hB3
    obtain ⟨ρ, Ap, cp, Ai, ci, Aa, ca, Aw, cw, Al, cl, hM⟩ := hr3
    have c12 := hM.rc.c 12 _ rfl
    have c4 := hM.rc.c 4 _ rfl
    have nf4 := hM.rc.nf 4
    have hltM := hM.rc.lt
    have hownM := hM.rr.hw
    rw [hm] at c4 hownM
    have HM1 := Lib.hid hM
    clear hM
    go_wp2_with ((at_builtin; refine wpList_app rfl _ _ 28 rfl (g + 1) ciT rfl (own_below hownM (bal (Below.refl _ _) _)) (ints [0]) rfl (sl_new _ rfl rfl) (oneCell_ints [0]) (by omega) (Nat.le_trans hltM (bal (Below.refl _ _) _).size) ?_; intro A2 c2 w2 hown2 hg2 hat2; have hMa := HM1.out.below (bal (Below.refl _ _) (.cells #[.int .i64 (0)] 3)); obtain ⟨cg, fg⟩ := hMa.gblk hm hg2; have d4 := (cg 4).trans (hMa.rc.c 4 _ rfl); have f4 := fg 4; rw [hm] at d4; have HMA := Lib.hid hMa; clear hMa cg fg))
    go_end0
    have q := HMA.out.push (v := 0) hm hg2 hown2 hat2
    refine ⟨0, a, rfl, ?_, ?_⟩
    · exact HBS.out.trans (((bal (Below.refl _ _) _ : Below _ _ _).mono (Nat.le_of_lt hltM)).trans q.2)
    · rw [if_neg (by omega)]; exact q.1
end Go.Proofs.YtdfkbbcoolgfiaaGreat
