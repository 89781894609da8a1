/- Letters' programs: a machine in memory; its small parts. -/
import Derived.Test.YtdfkbbcoolgfiaaGreatMAdd
import Derived.Test.YtdfkbbcoolgfiaaGreatMade
import Derived.Test.YtdfkbbcoolgfiaaGreatAllP
namespace Go.Proofs.YtdfkbbcoolgfiaaGreat
open Go.RowKit

/-- A text's bytes. -/
def bl (s : ByteArray) : List Nat := s.data.toList.map UInt8.toNat
theorem bl_len (s : ByteArray) : (bl s).length = s.size := by simp [bl]
theorem bl_get (s : ByteArray) (i : Nat) (h : i < s.size) : (bl s)[i]? = some (s[i]'h).toNat := by
  have h2 : i < s.data.toList.length := by simpa using h
  unfold bl
  rw [List.getElem?_map, List.getElem?_eq_getElem h2]
  rfl
theorem bl_cut (s : ByteArray) (a : Nat) : bl (s.extract a s.size) = (bl s).drop a := by
  have h : (s.extract a s.size).data.toList = s.data.toList.drop a := by
    rw [ByteArray.data_extract, Array.toList_extract, List.extract_eq_take_drop]
    rw [List.take_of_length_le (by rw [List.length_drop, Array.length_toList]; exact Nat.le_refl _)]
  unfold bl
  rw [h, List.map_drop]
theorem bl_lt (s : ByteArray) : ∀ b ∈ bl s, b < 256 := by
  intro b hb
  unfold bl at hb
  rw [List.mem_map] at hb
  obtain ⟨u, _, rfl⟩ := hb
  exact u.toNat_lt
def strs (P : List ByteArray) : List Value := P.map Value.string

/-- A machine in block g. Its pieces' row lies ahead of it, its other rows behind it, apart from each other. -/
structure MAt (w : World) (g : Nat) (P : List ByteArray) (M : GM) (Ap : Option Addr) (cp : Nat) (Aw : Option Addr) (cw : Nat) (Al : Option Addr) (cl : Nat) : Prop where
  lt : g < w.heap.size
  nf : ∀ i, w.frozen? ⟨g, i, none⟩ = false
  c0 : w.cell? ⟨g, 0, none⟩ = some (.slice Ap P.length cp)
  c1 : w.cell? ⟨g, 1, none⟩ = some (.slice Aw M.wait.length cw)
  c2 : w.cell? ⟨g, 2, none⟩ = some (.slice Al M.l.length cl)
  c3 : w.cell? ⟨g, 3, none⟩ = some (.int .i64 M.x)
  c4 : w.cell? ⟨g, 4, none⟩ = some (.int .i64 M.y)
  c5 : w.cell? ⟨g, 5, none⟩ = some (.int .i64 M.wide)
  c6 : w.cell? ⟨g, 6, none⟩ = some (.int .i64 (M.ops : Int))
  c7 : w.cell? ⟨g, 7, none⟩ = some (.bool M.drawn)
  c8 : w.cell? ⟨g, 8, none⟩ = some (.bool M.over)
  hp : 0 < P.length → ∃ b off : Nat, Ap = some ⟨b, off, none⟩ ∧ b < g ∧ ∀ j u, (strs P)[j]? = some u → w.cell? ⟨b, off + j, none⟩ = some u
  hw : w.ownsRow (g + 1) 3 1 (.slice Aw M.wait.length cw) M.wait.length (ints M.wait)
  hl : Sl w 5 Al M.l.length (sgs M.l)
  lc : M.l.length ≤ cl
  lg : 0 < M.l.length → ∀ b off, Al = some ⟨b, off, none⟩ → g < b ∧ ∀ k, (Value.slice Aw M.wait.length cw).ownBlock = some k → b ≠ k

def MS (w : World) (g : Nat) (P : List ByteArray) (M : GM) : Prop := GOK M ∧ ∃ Ap cp Aw cw Al cl, MAt w g P M Ap cp Aw cw Al cl

section
variable {w w' : World} {g : Nat} {P : List ByteArray} {M : GM} {Ap Aw Al : Option Addr} {cp cw cl : Nat}
theorem set_own {u : Value} {i : Nat} : w.grownBy (w.setCell ⟨g, i, none⟩ u) (some g) :=
  ⟨rfl, rfl, rfl, by simp [World.setCell], fun k _ hk => heap_setCell_other w ⟨g, i, none⟩ k _ (fun e => hk (by simp [e]))⟩
theorem cell_g (hg : w.grownBy w' (some g)) {b o : Nat} (hb : b < w.heap.size) (hne : b ≠ g) : w'.cell? ⟨b, o, none⟩ = w.cell? ⟨b, o, none⟩ :=
  World.cell?_of_block (a := ⟨b, o, none⟩) (hg.block b hb (by simp; omega))
theorem sl_g (hg : w.grownBy w' (some g)) {s n : Nat} {A : Option Addr} {xs : List Value} (h : Sl w s A n xs) (hne : 0 < n → ∀ b off, A = some ⟨b, off, none⟩ → b ≠ g) : Sl w' s A n xs :=
  ⟨h.1, fun hn => by
    obtain ⟨b, off, e, hlt, hc⟩ := h.2 hn
    exact ⟨b, off, e, Nat.lt_of_lt_of_le hlt hg.size, fun j u hu => (cell_g hg hlt (hne hn b off e)).trans (hc j u hu)⟩⟩
/-- Numbers and truths are written. -/
theorem MAt.write (h : MAt w g P M Ap cp Aw cw Al cl) {w' : World} (hg : w.grownBy w' (some g)) (nf : ∀ i, w'.frozen? ⟨g, i, none⟩ = false) {M' : GM}
    (e0 : w'.cell? ⟨g, 0, none⟩ = some (.slice Ap P.length cp)) (e1 : w'.cell? ⟨g, 1, none⟩ = some (.slice Aw M.wait.length cw)) (e2 : w'.cell? ⟨g, 2, none⟩ = some (.slice Al M.l.length cl))
    (e3 : w'.cell? ⟨g, 3, none⟩ = some (.int .i64 M'.x)) (e4 : w'.cell? ⟨g, 4, none⟩ = some (.int .i64 M'.y)) (e5 : w'.cell? ⟨g, 5, none⟩ = some (.int .i64 M'.wide)) (e6 : w'.cell? ⟨g, 6, none⟩ = some (.int .i64 (M'.ops : Int)))
    (e7 : w'.cell? ⟨g, 7, none⟩ = some (.bool M'.drawn)) (e8 : w'.cell? ⟨g, 8, none⟩ = some (.bool M'.over)) (hM : M'.wait = M.wait) (hM2 : M'.l = M.l) : MAt w' g P M' Ap cp Aw cw Al cl := by
  have hlt := h.lt
  refine ⟨Nat.lt_of_lt_of_le hlt hg.size, nf, e0, by rw [hM]; exact e1, by rw [hM2]; exact e2, e3, e4, e5, e6, e7, e8, ?_, ?_, ?_, by rw [hM2]; exact h.lc, by rw [hM, hM2]; exact h.lg⟩
  · intro hn
    obtain ⟨b, off, e, hb, hc⟩ := h.hp hn
    exact ⟨b, off, e, hb, fun j u hu => (cell_g hg (by omega) (by omega)).trans (hc j u hu)⟩
  · rw [hM]; exact own_g h.hw hg (Nat.lt_succ_self g)
  · rw [hM2]; exact sl_g hg h.hl fun h0 b off e => by have := (h.lg h0 b off e).1; omega
theorem fz_set (nf : ∀ i, w.frozen? ⟨g, i, none⟩ = false) (k : Nat) (u : Value) : ∀ i, (w.setCell ⟨g, k, none⟩ u).frozen? ⟨g, i, none⟩ = false := fun i => by rw [World.frozen?_setCell]; exact nf i
theorem cs_same {i : Nat} {u v : Value} (hc : w.cell? ⟨g, i, none⟩ = some v) : (w.setCell ⟨g, i, none⟩ u).cell? ⟨g, i, none⟩ = some u := World.cell?_setCell_same _ _ _ hc
theorem cs_other {i j : Nat} {u v : Value} (hij : i ≠ j) (hc : w.cell? ⟨g, j, none⟩ = some v) : (w.setCell ⟨g, i, none⟩ u).cell? ⟨g, j, none⟩ = some v := by
  rw [World.cell?_setCell_other _ _ _ _ (by intro e; injection e; omega)]; exact hc
theorem MAt.setX (h : MAt w g P M Ap cp Aw cw Al cl) (x : Int) : MAt (w.setCell ⟨g, 3, none⟩ (.int .i64 x)) g P { M with x := x } Ap cp Aw cw Al cl :=
  h.write set_own (fz_set h.nf _ _) (cs_other (by omega) h.c0) (cs_other (by omega) h.c1) (cs_other (by omega) h.c2) (cs_same h.c3) (cs_other (by omega) h.c4) (cs_other (by omega) h.c5) (cs_other (by omega) h.c6) (cs_other (by omega) h.c7) (cs_other (by omega) h.c8) rfl rfl
theorem MAt.setY (h : MAt w g P M Ap cp Aw cw Al cl) (x : Int) : MAt (w.setCell ⟨g, 4, none⟩ (.int .i64 x)) g P { M with y := x } Ap cp Aw cw Al cl :=
  h.write set_own (fz_set h.nf _ _) (cs_other (by omega) h.c0) (cs_other (by omega) h.c1) (cs_other (by omega) h.c2) (cs_other (by omega) h.c3) (cs_same h.c4) (cs_other (by omega) h.c5) (cs_other (by omega) h.c6) (cs_other (by omega) h.c7) (cs_other (by omega) h.c8) rfl rfl
theorem MAt.setWide (h : MAt w g P M Ap cp Aw cw Al cl) (x : Int) : MAt (w.setCell ⟨g, 5, none⟩ (.int .i64 x)) g P { M with wide := x } Ap cp Aw cw Al cl :=
  h.write set_own (fz_set h.nf _ _) (cs_other (by omega) h.c0) (cs_other (by omega) h.c1) (cs_other (by omega) h.c2) (cs_other (by omega) h.c3) (cs_other (by omega) h.c4) (cs_same h.c5) (cs_other (by omega) h.c6) (cs_other (by omega) h.c7) (cs_other (by omega) h.c8) rfl rfl
theorem MAt.setOps (h : MAt w g P M Ap cp Aw cw Al cl) {x : Int} {k : Nat} (hx : x = (k : Int)) : MAt (w.setCell ⟨g, 6, none⟩ (.int .i64 x)) g P { M with ops := k } Ap cp Aw cw Al cl := by
  subst hx
  exact h.write set_own (fz_set h.nf _ _) (cs_other (by omega) h.c0) (cs_other (by omega) h.c1) (cs_other (by omega) h.c2) (cs_other (by omega) h.c3) (cs_other (by omega) h.c4) (cs_other (by omega) h.c5) (cs_same h.c6) (cs_other (by omega) h.c7) (cs_other (by omega) h.c8) rfl rfl
theorem MAt.setDrawn (h : MAt w g P M Ap cp Aw cw Al cl) (x : Bool) : MAt (w.setCell ⟨g, 7, none⟩ (.bool x)) g P { M with drawn := x } Ap cp Aw cw Al cl :=
  h.write set_own (fz_set h.nf _ _) (cs_other (by omega) h.c0) (cs_other (by omega) h.c1) (cs_other (by omega) h.c2) (cs_other (by omega) h.c3) (cs_other (by omega) h.c4) (cs_other (by omega) h.c5) (cs_other (by omega) h.c6) (cs_same h.c7) (cs_other (by omega) h.c8) rfl rfl
theorem MAt.setOver (h : MAt w g P M Ap cp Aw cw Al cl) (x : Bool) : MAt (w.setCell ⟨g, 8, none⟩ (.bool x)) g P { M with over := x } Ap cp Aw cw Al cl :=
  h.write set_own (fz_set h.nf _ _) (cs_other (by omega) h.c0) (cs_other (by omega) h.c1) (cs_other (by omega) h.c2) (cs_other (by omega) h.c3) (cs_other (by omega) h.c4) (cs_other (by omega) h.c5) (cs_other (by omega) h.c6) (cs_other (by omega) h.c7) (cs_same h.c8) rfl rfl
/-- Another path. -/
theorem MAt.setL (h : MAt w g P M Ap cp Aw cw Al cl) {L : List Sg} {A : Option Addr} {c n : Nat} (hs : Sl w 5 A n (sgs L)) (hn : L.length = n) (hnc : n ≤ c) (hA : ∀ b off, A = some ⟨b, off, none⟩ → g < b ∧ ∀ k, (Value.slice Aw M.wait.length cw).ownBlock = some k → b ≠ k) :
    MAt (w.setCell ⟨g, 2, none⟩ (.slice A n c)) g P { M with l := L } Ap cp Aw cw A c := by
  subst hn
  have hg : w.grownBy (w.setCell ⟨g, 2, none⟩ (.slice A L.length c)) (some g) := set_own
  refine ⟨Nat.lt_of_lt_of_le h.lt hg.size, fz_set h.nf _ _, cs_other (by omega) h.c0, cs_other (by omega) h.c1, cs_same h.c2, cs_other (by omega) h.c3, cs_other (by omega) h.c4, cs_other (by omega) h.c5, cs_other (by omega) h.c6, cs_other (by omega) h.c7, cs_other (by omega) h.c8, ?_, ?_, ?_, hnc, fun _ => hA⟩
  · intro hn
    obtain ⟨b, off, e, hb, hc⟩ := h.hp hn
    have := h.lt
    exact ⟨b, off, e, hb, fun j u hu => (cell_g hg (by omega) (by omega)).trans (hc j u hu)⟩
  · exact own_g h.hw hg (Nat.lt_succ_self g)
  · exact sl_g hg hs fun _ b off e => by have := (hA b off e).1; omega
/-- Another row of numbers that wait. -/
theorem MAt.setWait (h : MAt w g P M Ap cp Aw cw Al cl) {v : List Int} {A : Option Addr} {c n : Nat} (hs : w.ownsRow (g + 1) 3 1 (.slice A n c) n (ints v)) (hn : v.length = n) (hA : 0 < M.l.length → ∀ b off, Al = some ⟨b, off, none⟩ → ∀ k, (Value.slice A n c).ownBlock = some k → b ≠ k) :
    MAt (w.setCell ⟨g, 1, none⟩ (.slice A n c)) g P { M with wait := v } Ap cp A c Al cl := by
  subst hn
  have hg : w.grownBy (w.setCell ⟨g, 1, none⟩ (.slice A v.length c)) (some g) := set_own
  refine ⟨Nat.lt_of_lt_of_le h.lt hg.size, fz_set h.nf _ _, cs_other (by omega) h.c0, cs_same h.c1, cs_other (by omega) h.c2, cs_other (by omega) h.c3, cs_other (by omega) h.c4, cs_other (by omega) h.c5, cs_other (by omega) h.c6, cs_other (by omega) h.c7, cs_other (by omega) h.c8, ?_, ?_, ?_, h.lc, fun h0 b off e => ⟨(h.lg h0 b off e).1, hA h0 b off e⟩⟩
  · intro hn
    obtain ⟨b, off, e, hb, hc⟩ := h.hp hn
    have := h.lt
    exact ⟨b, off, e, hb, fun j u hu => (cell_g hg (by omega) (by omega)).trans (hc j u hu)⟩
  · exact own_g hs hg (Nat.lt_succ_self g)
  · exact sl_g hg h.hl fun h0 b off e => by have := (h.lg h0 b off e).1; omega
/-- What others make leaves it as it is. -/
theorem MAt.below (h : MAt w g P M Ap cp Aw cw Al cl) (hb : Below w.heap.size w w') : MAt w' g P M Ap cp Aw cw Al cl := by
  have hlt := h.lt
  refine ⟨Nat.lt_of_lt_of_le hlt hb.size, fun i => (later_frozen hb hlt).trans (h.nf i), (later_cell hb hlt).trans h.c0, (later_cell hb hlt).trans h.c1, (later_cell hb hlt).trans h.c2, (later_cell hb hlt).trans h.c3, (later_cell hb hlt).trans h.c4, (later_cell hb hlt).trans h.c5, (later_cell hb hlt).trans h.c6, (later_cell hb hlt).trans h.c7, (later_cell hb hlt).trans h.c8, ?_, own_below h.hw hb, h.hl.below hb, h.lc, h.lg⟩
  intro hn
  obtain ⟨b, off, e, hb', hc⟩ := h.hp hn
  exact ⟨b, off, e, hb', fun j u hu => (later_cell hb (by omega)).trans (hc j u hu)⟩
/-- An owned row that is made behind the machine lies apart. -/
theorem own_apart {e : TypeId} {s n c base : Nat} {A : Option Addr} {xs : List Value} (h : w'.ownsRow base e s (.slice A n c) n xs) : ∀ b off, A = some ⟨b, off, none⟩ → base ≤ b := by
  intro b off e'
  rcases h.2 with ⟨hv, _⟩ | ⟨k, cap, cur, hv, hk, _⟩
  · simp only [Value.slice.injEq] at hv; rw [hv.1] at e'; cases e'
  · simp only [Value.slice.injEq] at hv
    rw [hv.1] at e'
    injection e' with e'; injection e' with e'; omega
theorem MAt.apart (h : MAt w g P M Ap cp Aw cw Al cl) {A : Option Addr} {e : TypeId} {s n c : Nat} {xs : List Value} (ho : w'.ownsRow w.heap.size e s (.slice A n c) n xs) :
    ∀ b off, A = some ⟨b, off, none⟩ → g < b ∧ ∀ k, (Value.slice Aw M.wait.length cw).ownBlock = some k → b ≠ k := by
  intro b off he
  have h1 := own_apart ho b off he
  have hlt := h.lt
  refine ⟨by omega, fun k hk => ?_⟩
  have := (h.hw.lt k hk).2
  omega
/-- Frames: only block g is written. -/
theorem ggtr {w1 w2 : World} (h1 : w.grownBy w1 (some g)) (h2 : w1.grownBy w2 (some g)) : w.grownBy w2 (some g) :=
  ⟨h2.os.trans h1.os, h2.tape.trans h1.tape, h2.output.trans h1.output, Nat.le_trans h1.size h2.size, fun k hk hne => (h2.block k (Nat.lt_of_lt_of_le hk h1.size) hne).trans (h1.block k hk hne)⟩
theorem ggbel (h : Below w.heap.size w w') : w.grownBy w' (some g) := ⟨h.os, h.tape, h.output, h.size, fun k hk _ => h.block k hk⟩
end

/-- What an answer says. -/
def Res (g : Nat) (P : List ByteArray) (w' : World) (z : Int) : GR → Prop
  | .bad er => z = er ∧ er ≠ 0 ∧ ∃ M, MS w' g P M
  | .ok M => z = 0 ∧ MS w' g P M
/-- What an operator answers. -/
def GPost (g : Nat) (P : List ByteArray) (w : World) (r : GR) (e : Ending) (w' : World) : Prop :=
  ∃ z, e = .returned (.int .i64 z) ∧ w.grownBy w' (some g) ∧ Res g P w' z r

set_option maxHeartbeats 1000000 in
theorem take_any (g : Nat) (P : List ByteArray) (M : GM) (L : List Sg) (er : Int) (n c : Nat) (A : Option Addr) (w : World) (h : MS w g P M) (hn : L.length = n) (hn3 : n ≤ 300) (hnc : n ≤ c) (hm : er = 0 → mayB L = true) (hs : Sl w 5 A n (sgs L))
    (hA : ∀ b off, A = some ⟨b, off, none⟩ → g < b ∧ ∀ k, (∃ Aw cw, w.cell? ⟨g, 1, none⟩ = some (.slice Aw M.wait.length cw) ∧ (Value.slice Aw M.wait.length cw).ownBlock = some k) → b ≠ k) :
    Calls Tryz.prog 206 #[.pointer (some ⟨g, 0, none⟩), .slice A n c, .int .i64 er] w (GPost g P w (takeG M (L, er))) := by
  have HMS := Lib.hid h
  obtain ⟨hok, Ap, cp, Aw, cw, Al, cl, hM⟩ := h
  have hok' := fun M' => GOK.take (M' := M') hok (r := (L, er)) hm
  have nf := hM.nf 2
  have nf3 := hM.nf 3
  have nf4 := hM.nf 4
  have c2 := hM.c2
  have c3 := hM.c3
  have c4 := hM.c4
  by_cases he : er = 0
  · subst he
    have hL := hM.setL (c := c) hs hn hnc (fun b off e => ⟨(hA b off e).1, fun k hk => (hA b off e).2 k ⟨_, _, hM.c1, hk⟩⟩)
    have hg1 : w.grownBy (w.setCell ⟨g, 2, none⟩ (.slice A n c)) (some g) := set_own
    have hs1 := sl_g hg1 hs (fun _ b off e => by have := (hA b off e).1; omega)
    obtain ⟨w1, hw1⟩ : ∃ w1 : World, w1 = w.setCell ⟨g, 2, none⟩ (.slice A n c) := ⟨_, rfl⟩
    rw [← hw1] at hL hg1 hs1
    obtain ⟨⟨px, py, ok⟩, hp⟩ : ∃ p, ptL L = p := ⟨_, rfl⟩
    have HW := Lib.hid hw1
    have hT : takeG M (L, 0) = .ok { M with l := L, x := if ok then px else M.x, y := if ok then py else M.y } := by unfold takeG; simp [hp]
    have HT := Lib.hid hT
    have HP := Lib.hid hp
    have HOK := Lib.hid (hok' _ hT)
    clear hs hA hM c3 c4 nf3 nf4 hok hok' hm hT hp hw1
    go_enter Tryz.func206, Tryz.ntmps206
    go_wp2_with fail
    rw [← HW.out]
    refine (Point_any A n c L (px, py, ok) w1 (by omega) hs1 HP.out).mono ?_; rintro e w2 ⟨rfl, hb2⟩
    have h2 := hL.below hb2
    have g2 := ggtr hg1 (ggbel (g := g) hb2)
    have d3 := h2.c3
    have d4 := h2.c4
    have f3 := h2.nf 3
    have f4 := h2.nf 4
    clear hb2 hs1 hL hg1 nf c2 HW
    cases ok
    · go_wp2
      go_ret
      refine ⟨_, rfl, g2, ?_⟩
      rw [HT.out]
      exact ⟨rfl, HOK.out, Ap, cp, Aw, cw, A, c, h2⟩
    · have h3 := (h2.setX px).setY py
      go_wp2
      go_ret
      refine ⟨_, rfl, ggtr (ggtr g2 set_own) set_own, ?_⟩
      rw [HT.out]
      exact ⟨rfl, HOK.out, Ap, cp, Aw, cw, A, c, h3⟩
  · have hT : takeG M (L, er) = .bad er := by unfold takeG; rw [if_neg he]
    have HT := Lib.hid hT
    have he1 : (er != 0) = true := by simp [he]
    clear hT hok' hm hs hA hM nf nf3 nf4 c2 c3 c4 hok
    go_enter Tryz.func206, Tryz.ntmps206
    go_wp2_with fail
    go_ret
    refine ⟨_, rfl, ggbel (Below.refl _ _), ?_⟩
    rw [HT.out]
    exact ⟨rfl, he, M, HMS.out⟩
end Go.Proofs.YtdfkbbcoolgfiaaGreat
