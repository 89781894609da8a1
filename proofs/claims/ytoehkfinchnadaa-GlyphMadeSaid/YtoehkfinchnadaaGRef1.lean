/- The reference's machine in memory. -/
import Derived.Test.YtoehkfinchnadaaGlyph8
import Derived.Test.YtoehkfinchnadaaAllP
namespace Go.Proofs.Ytoehkfinchnadaa
open Go.RowKit Go.BigFrame

/-- Its rows: they lie behind block g, each in a block of its own role. -/
structure RR (w : World) (g : Nat) (ρ : Nat → Nat) (P : List ByteArray) (fi fa wt : List Int) (l : List Sg) (vi va vw : Value) (Ap Al : Option Addr) : Prop where
  hp : Sl w 1 Ap P.length (strs P)
  hi : w.ownsRow (g + 1) 3 1 vi fi.length (ints fi)
  ha : w.ownsRow (g + 1) 3 1 va fa.length (ints fa)
  hw : w.ownsRow (g + 1) 3 1 vw wt.length (ints wt)
  hl : Sl w 5 Al l.length (sgs l)
  ri : ∀ k, vi.ownBlock = some k → ρ k = 1
  ra : ∀ k, va.ownBlock = some k → ρ k = 2
  rw : ∀ k, vw.ownBlock = some k → ρ k = 3
  rl : 0 < l.length → ∀ b off, Al = some ⟨b, off, none⟩ → g < b ∧ ρ b = 4
  rp : 0 < P.length → ∀ b off, Ap = some ⟨b, off, none⟩ → g < b ∧ ρ b = 5
section
variable {w w' : World} {g : Nat} {ρ : Nat → Nat} {P : List ByteArray} {fi fa wt : List Int} {l : List Sg} {vi va vw : Value} {Ap Al : Option Addr}
theorem RR.own1 (h : RR w g ρ P fi fa wt l vi va vw Ap Al) (hg : w.grownBy w' (some g)) : RR w' g ρ P fi fa wt l vi va vw Ap Al :=
  ⟨sl_g hg h.hp (fun h0 b off e => by have := (h.rp h0 b off e).1; omega), own_g h.hi hg (by omega), own_g h.ha hg (by omega), own_g h.hw hg (by omega), sl_g hg h.hl (fun h0 b off e => by have := (h.rl h0 b off e).1; omega), h.ri, h.ra, h.rw, h.rl, h.rp⟩
theorem RR.below (h : RR w g ρ P fi fa wt l vi va vw Ap Al) (hb : Below w.heap.size w w') : RR w' g ρ P fi fa wt l vi va vw Ap Al :=
  ⟨h.hp.below hb, own_below h.hi hb, own_below h.ha hb, own_below h.hw hb, h.hl.below hb, h.ri, h.ra, h.rw, h.rl, h.rp⟩
theorem own_off {base : Nat} {e : TypeId} {s n : Nat} {v u : Value} {xs : List Value} (h : w.ownsRow base e s v n xs) (hg : w.grownBy w' u.ownBlock) (hne : ∀ k, v.ownBlock = some k → u.ownBlock = some k → False) : w'.ownsRow base e s v n xs :=
  h.kept hg (by
    cases hv : v.ownBlock with
    | none => simp
    | some k =>
      cases hu : u.ownBlock with
      | none => simp
      | some k2 =>
        simp
        intro e; subst e; exact hne _ hv hu)
theorem sl_off {s n : Nat} {A : Option Addr} {u : Value} {xs : List Value} (h : Sl w s A n xs) (hg : w.grownBy w' u.ownBlock) (hne : 0 < n → ∀ b off, A = some ⟨b, off, none⟩ → u.ownBlock = some b → False) : Sl w' s A n xs :=
  ⟨h.1, fun hn => by
    obtain ⟨b, off, e, hb, hc⟩ := h.2 hn
    exact ⟨b, off, e, Nat.lt_of_lt_of_le hb hg.size, fun j x hx => (World.cell?_of_block (a := ⟨b, off + j, none⟩) (hg.block b hb (fun e2 => hne hn b off e e2.symm))).trans (hc j x hx)⟩⟩
/-- A role for the next block. -/
def role (ρ : Nat → Nat) (k r : Nat) : Nat → Nat := fun b => if b = k then r else ρ b
theorem role_old {ρ : Nat → Nat} {k r b : Nat} (h : b < k) : role ρ k r b = ρ b := by unfold role; rw [if_neg (by omega)]
theorem own_in {base : Nat} {e : TypeId} {s n : Nat} {v : Value} {xs : List Value} (h : w.ownsRow base e s v n xs) {k : Nat} (hk : v.ownBlock = some k) : k < w.heap.size := (h.lt k hk).2
theorem sl_in {s n b off : Nat} {A : Option Addr} {xs : List Value} (h : Sl w s A n xs) (hn : 0 < n) (hA : A = some ⟨b, off, none⟩) : b < w.heap.size := by
  obtain ⟨b1, o1, e, hb, _⟩ := h.2 hn
  rw [hA] at e; injection e with e; injection e with e1 e2; omega
theorem RR.rowW (h : RR w g ρ P fi fa wt l vi va vw Ap Al) {v' : Value} {xs' : List Int} (hg : w.grownBy w' vw.ownBlock) (ho : w'.ownsRow (g + 1) 3 1 v' xs'.length (ints xs')) (hat : v'.ownBlock = vw.ownBlock ∨ v'.ownBlock = some w.heap.size) :
    ∃ ρ', RR w' g ρ' P fi fa xs' l vi va v' Ap Al := by
  have q := @own_in _ _ _ _ _ _ _ h.hi
  have q2 := @own_in _ _ _ _ _ _ _ h.ha
  have q3 := @own_in _ _ _ _ _ _ _ h.hw
  have old : ∀ {b : Nat}, b < w.heap.size → role ρ w.heap.size 3 b = ρ b := fun hb => role_old hb
  have hr : ∀ k, v'.ownBlock = some k → role ρ w.heap.size 3 k = 3 := by
    intro k hk
    rcases hat with e | e
    · rw [e] at hk
      have := h.rw k hk
      unfold role; split
      · rfl
      · exact this
    · rw [e] at hk; injection hk with hk; unfold role; rw [if_pos hk.symm]
  refine ⟨role ρ w.heap.size 3, ?_, own_off h.hi hg (fun k hv hu => by have h1 := h.ri k hv; have h2 := h.rw k hu; omega), own_off h.ha hg (fun k hv hu => by have h1 := h.ra k hv; have h2 := h.rw k hu; omega), ho, ?_, fun k hk => by rw [old (q hk)]; exact h.ri k hk, fun k hk => by rw [old (q2 hk)]; exact h.ra k hk, hr, ?_, ?_⟩
  · exact sl_off h.hp hg fun h0 b off e hk => by have h1 := (h.rp h0 b off e).2; have h2 := h.rw b hk; omega
  · exact sl_off h.hl hg fun h0 b off e hk => by have h1 := (h.rl h0 b off e).2; have h2 := h.rw b hk; omega
  · intro h0 b off e; rw [old (sl_in h.hl h0 e)]; exact h.rl h0 b off e
  · intro h0 b off e; rw [old (sl_in h.hp h0 e)]; exact h.rp h0 b off e
theorem RR.rowI (h : RR w g ρ P fi fa wt l vi va vw Ap Al) {v' : Value} {xs' : List Int} (hg : w.grownBy w' vi.ownBlock) (ho : w'.ownsRow (g + 1) 3 1 v' xs'.length (ints xs')) (hat : v'.ownBlock = vi.ownBlock ∨ v'.ownBlock = some w.heap.size) :
    ∃ ρ', RR w' g ρ' P xs' fa wt l v' va vw Ap Al := by
  have q := @own_in _ _ _ _ _ _ _ h.hi
  have q2 := @own_in _ _ _ _ _ _ _ h.ha
  have q3 := @own_in _ _ _ _ _ _ _ h.hw
  have old : ∀ {b : Nat}, b < w.heap.size → role ρ w.heap.size 1 b = ρ b := fun hb => role_old hb
  have hr : ∀ k, v'.ownBlock = some k → role ρ w.heap.size 1 k = 1 := by
    intro k hk
    rcases hat with e | e
    · rw [e] at hk
      have := h.ri k hk
      unfold role; split
      · rfl
      · exact this
    · rw [e] at hk; injection hk with hk; unfold role; rw [if_pos hk.symm]
  refine ⟨role ρ w.heap.size 1, ?_, ho, own_off h.ha hg (fun k hv hu => by have h1 := h.ra k hv; have h2 := h.ri k hu; omega), own_off h.hw hg (fun k hv hu => by have h1 := h.rw k hv; have h2 := h.ri k hu; omega), ?_, hr, fun k hk => by rw [old (q2 hk)]; exact h.ra k hk, fun k hk => by rw [old (q3 hk)]; exact h.rw k hk, ?_, ?_⟩
  · exact sl_off h.hp hg fun h0 b off e hk => by have h1 := (h.rp h0 b off e).2; have h2 := h.ri b hk; omega
  · exact sl_off h.hl hg fun h0 b off e hk => by have h1 := (h.rl h0 b off e).2; have h2 := h.ri b hk; omega
  · intro h0 b off e; rw [old (sl_in h.hl h0 e)]; exact h.rl h0 b off e
  · intro h0 b off e; rw [old (sl_in h.hp h0 e)]; exact h.rp h0 b off e
theorem RR.rowA (h : RR w g ρ P fi fa wt l vi va vw Ap Al) {v' : Value} {xs' : List Int} (hg : w.grownBy w' va.ownBlock) (ho : w'.ownsRow (g + 1) 3 1 v' xs'.length (ints xs')) (hat : v'.ownBlock = va.ownBlock ∨ v'.ownBlock = some w.heap.size) :
    ∃ ρ', RR w' g ρ' P fi xs' wt l vi v' vw Ap Al := by
  have q := @own_in _ _ _ _ _ _ _ h.hi
  have q2 := @own_in _ _ _ _ _ _ _ h.ha
  have q3 := @own_in _ _ _ _ _ _ _ h.hw
  have old : ∀ {b : Nat}, b < w.heap.size → role ρ w.heap.size 2 b = ρ b := fun hb => role_old hb
  have hr : ∀ k, v'.ownBlock = some k → role ρ w.heap.size 2 k = 2 := by
    intro k hk
    rcases hat with e | e
    · rw [e] at hk
      have := h.ra k hk
      unfold role; split
      · rfl
      · exact this
    · rw [e] at hk; injection hk with hk; unfold role; rw [if_pos hk.symm]
  refine ⟨role ρ w.heap.size 2, ?_, own_off h.hi hg (fun k hv hu => by have h1 := h.ri k hv; have h2 := h.ra k hu; omega), ho, own_off h.hw hg (fun k hv hu => by have h1 := h.rw k hv; have h2 := h.ra k hu; omega), ?_, fun k hk => by rw [old (q hk)]; exact h.ri k hk, hr, fun k hk => by rw [old (q3 hk)]; exact h.rw k hk, ?_, ?_⟩
  · exact sl_off h.hp hg fun h0 b off e hk => by have h1 := (h.rp h0 b off e).2; have h2 := h.ra b hk; omega
  · exact sl_off h.hl hg fun h0 b off e hk => by have h1 := (h.rl h0 b off e).2; have h2 := h.ra b hk; omega
  · intro h0 b off e; rw [old (sl_in h.hl h0 e)]; exact h.rl h0 b off e
  · intro h0 b off e; rw [old (sl_in h.hp h0 e)]; exact h.rp h0 b off e
/-- Another path, made behind the machine's rows. -/
theorem RR.setL (h : RR w g ρ P fi fa wt l vi va vw Ap Al) (hb : Below w.heap.size w w') (hgw : g < w.heap.size) {A : Option Addr} {L : List Sg} (hs : Sl w' 5 A L.length (sgs L)) (hA : ∀ b off, A = some ⟨b, off, none⟩ → w.heap.size ≤ b) : ∃ ρ', RR w' g ρ' P fi fa wt L vi va vw Ap A := by
  have q := @own_in _ _ _ _ _ _ _ h.hi
  have q2 := @own_in _ _ _ _ _ _ _ h.ha
  have q3 := @own_in _ _ _ _ _ _ _ h.hw
  have h' := h.below hb
  refine ⟨fun b => if b < w.heap.size then ρ b else 4, h'.hp, h'.hi, h'.ha, h'.hw, hs, fun k hk => by simp only [if_pos (q hk)]; exact h.ri k hk, fun k hk => by simp only [if_pos (q2 hk)]; exact h.ra k hk, fun k hk => by simp only [if_pos (q3 hk)]; exact h.rw k hk, ?_, ?_⟩
  · intro _ b off e
    have := hA b off e
    exact ⟨by omega, by simp only [if_neg (show ¬ b < w.heap.size by omega)]⟩
  · intro h0 b off e; simp only [if_pos (sl_in h.hp h0 e)]; exact h.rp h0 b off e
/-- No row is one of another role: shorter rows in their blocks. -/
theorem RR.popW (h : RR w g ρ P fi fa wt l vi va vw Ap Al) {v' : Value} {xs' : List Int} (ho : w.ownsRow (g + 1) 3 1 v' xs'.length (ints xs')) (hat : v'.ownBlock = vw.ownBlock ∨ v'.ownBlock = none) : RR w g ρ P fi fa xs' l vi va v' Ap Al :=
  ⟨h.hp, h.hi, h.ha, ho, h.hl, h.ri, h.ra, fun k hk => hat.elim (fun e => h.rw k (e ▸ hk)) (fun e => by rw [e] at hk; cases hk), h.rl, h.rp⟩
theorem RR.popI (h : RR w g ρ P fi fa wt l vi va vw Ap Al) {v' : Value} {xs' : List Int} (ho : w.ownsRow (g + 1) 3 1 v' xs'.length (ints xs')) (hat : v'.ownBlock = vi.ownBlock ∨ v'.ownBlock = none) : RR w g ρ P xs' fa wt l v' va vw Ap Al :=
  ⟨h.hp, ho, h.ha, h.hw, h.hl, fun k hk => hat.elim (fun e => h.ri k (e ▸ hk)) (fun e => by rw [e] at hk; cases hk), h.ra, h.rw, h.rl, h.rp⟩
theorem RR.popA (h : RR w g ρ P fi fa wt l vi va vw Ap Al) {v' : Value} {xs' : List Int} (ho : w.ownsRow (g + 1) 3 1 v' xs'.length (ints xs')) (hat : v'.ownBlock = va.ownBlock ∨ v'.ownBlock = none) : RR w g ρ P fi xs' wt l vi v' vw Ap Al :=
  ⟨h.hp, h.hi, ho, h.hw, h.hl, h.ri, fun k hk => hat.elim (fun e => h.ra k (e ▸ hk)) (fun e => by rw [e] at hk; cases hk), h.rw, h.rl, h.rp⟩
end

/-- The machine's cells. -/
structure RC (w : World) (g : Nat) (C : List Value) : Prop where
  lt : g < w.heap.size
  nf : ∀ i, w.frozen? ⟨g, i, none⟩ = false
  c : ∀ j v, C[j]? = some v → w.cell? ⟨g, j, none⟩ = some v
theorem RC.set {w : World} {g : Nat} {C : List Value} (h : RC w g C) (j : Nat) (u : Value) (hj : j < C.length) : RC (w.setCell ⟨g, j, none⟩ u) g (C.set j u) := by
  refine ⟨by simpa [World.setCell] using h.lt, fz_set h.nf j u, fun i v hv => ?_⟩
  by_cases hij : j = i
  · subst hij
    rw [List.getElem?_set_self hj] at hv
    cases hv
    exact cs_same (h.c j _ (List.getElem?_eq_getElem hj))
  · rw [List.getElem?_set_ne hij] at hv
    exact cs_other hij (h.c i v hv)
theorem RC.below {w w' : World} {g : Nat} {C : List Value} (h : RC w g C) (hb : Below w.heap.size w w') : RC w' g C :=
  ⟨Nat.lt_of_lt_of_le h.lt hb.size, fun i => (later_frozen hb h.lt).trans (h.nf i), fun j v hv => (later_cell hb h.lt).trans (h.c j v hv)⟩
theorem RC.off {w w' : World} {g : Nat} {C : List Value} {u : Value} (h : RC w g C) (hg : w.grownBy w' u.ownBlock) (hne : ∀ k, u.ownBlock = some k → g < k) : RC w' g C := by
  have hb := hg.block g h.lt fun e => by have := hne g e.symm; omega
  exact ⟨Nat.lt_of_lt_of_le h.lt hg.size, fun i => (World.frozen?_of_block (a := ⟨g, i, none⟩) hb).trans (h.nf i), fun j v hv => (World.cell?_of_block (a := ⟨g, j, none⟩) hb).trans (h.c j v hv)⟩
/-- The thirteen of them. -/
def rcv (vp : Value) (main : ByteArray) (vi va vw : Value) (M : GM) (vl : Value) (er : Int) : List Value :=
  [vp, .string main, vi, va, vw, .int .i64 M.x, .int .i64 M.y, vl, .int .i64 M.wide, .bool M.drawn, .int .i64 (M.ops : Int), .bool M.over, .int .i64 er]
def fsI (F : List (Int × Nat)) : List Int := F.map (·.1)
def fsA (F : List (Int × Nat)) : List Int := F.map fun p => ((p.2 : Nat) : Int)

/-- The reference's machine in block g: its pieces, its frames, what it knows, what went wrong. -/
structure RAt (w : World) (g : Nat) (P : List ByteArray) (main : ByteArray) (F : List (Int × Nat)) (M : GM) (er : Int) (ρ : Nat → Nat) (Ap : Option Addr) (cp : Nat) (Ai : Option Addr) (ci : Nat) (Aa : Option Addr) (ca : Nat) (Aw : Option Addr) (cw : Nat) (Al : Option Addr) (cl : Nat) : Prop where
  rc : RC w g (rcv (.slice Ap P.length cp) main (.slice Ai F.length ci) (.slice Aa F.length ca) (.slice Aw M.wait.length cw) M (.slice Al M.l.length cl) er)
  rr : RR w g ρ P (fsI F) (fsA F) M.wait M.l (.slice Ai F.length ci) (.slice Aa F.length ca) (.slice Aw M.wait.length cw) Ap Al
  lc : M.l.length ≤ cl
def RM (w : World) (g : Nat) (P : List ByteArray) (main : ByteArray) (F : List (Int × Nat)) (M : GM) (er : Int) : Prop :=
  ∃ ρ Ap cp Ai ci Aa ca Aw cw Al cl, RAt w g P main F M er ρ Ap cp Ai ci Aa ca Aw cw Al cl
theorem RM.below {w w' : World} {g : Nat} {P : List ByteArray} {main : ByteArray} {F : List (Int × Nat)} {M : GM} {er : Int} (h : RM w g P main F M er) (hb : Below w.heap.size w w') : RM w' g P main F M er := by
  obtain ⟨ρ, Ap, cp, Ai, ci, Aa, ca, Aw, cw, Al, cl, h⟩ := h
  exact ⟨ρ, Ap, cp, Ai, ci, Aa, ca, Aw, cw, Al, cl, h.rc.below hb, h.rr.below hb, h.lc⟩
/-- A number or a truth of its own is written. -/
theorem RAt.put {w : World} {g : Nat} {P : List ByteArray} {main : ByteArray} {F : List (Int × Nat)} {M : GM} {er : Int} {ρ : Nat → Nat} {Ap Ai Aa Aw Al : Option Addr} {cp ci ca cw cl : Nat} (h : RAt w g P main F M er ρ Ap cp Ai ci Aa ca Aw cw Al cl)
    (j : Nat) (u : Value) (M' : GM) (er' : Int) (hw : M'.wait = M.wait) (hl : M'.l = M.l) (hj : j < 13)
    (hC : (rcv (.slice Ap P.length cp) main (.slice Ai F.length ci) (.slice Aa F.length ca) (.slice Aw M.wait.length cw) M (.slice Al M.l.length cl) er).set j u = rcv (.slice Ap P.length cp) main (.slice Ai F.length ci) (.slice Aa F.length ca) (.slice Aw M.wait.length cw) M' (.slice Al M.l.length cl) er') :
    RAt (w.setCell ⟨g, j, none⟩ u) g P main F M' er' ρ Ap cp Ai ci Aa ca Aw cw Al cl := by
  have h1 := h.rc.set j u hj
  rw [hC] at h1
  refine ⟨by rw [hw, hl]; exact h1, by rw [hw, hl]; exact h.rr.own1 set_own, by rw [hl]; exact h.lc⟩

set_option maxHeartbeats 400000 in
/-- What went wrong first. -/
theorem wrong_first (g : Nat) (C : List Value) (er : Int) (w : World) (h : RC w g C) (h0 : C[12]? = some (.int .i64 0)) :
    Calls Try.prog 24 #[.pointer (some ⟨g, 0, none⟩), .int .i64 er] w fun e w' => e = .returned (.tuple #[]) ∧ w' = w.setCell ⟨g, 12, none⟩ (.int .i64 er) := by
  have c := h.c 12 _ h0
  have nf := h.nf 12
  clear h h0
  go_enter Try.func24, Try.ntmps24
  go_wp2
  go_end0
  exact ⟨rfl, rfl⟩
theorem wrong_again (g : Nat) (C : List Value) (er e0 : Int) (w : World) (h : RC w g C) (h0 : C[12]? = some (.int .i64 e0)) (hz : e0 ≠ 0) :
    Calls Try.prog 24 #[.pointer (some ⟨g, 0, none⟩), .int .i64 er] w fun e w' => e = .returned (.tuple #[]) ∧ w' = w := by
  have c := h.c 12 _ h0
  have hz1 : (e0 == 0) = false := by simp [hz]
  clear h h0
  go_enter Try.func24, Try.ntmps24
  go_wp2
  go_end0
  exact ⟨rfl, rfl⟩
end Go.Proofs.Ytoehkfinchnadaa
