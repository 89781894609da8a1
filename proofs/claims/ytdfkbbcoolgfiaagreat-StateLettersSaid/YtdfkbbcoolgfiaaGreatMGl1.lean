/- Letters' programs: the operators. -/
import Derived.Test.YtdfkbbcoolgfiaaGreatGlyph1
import Derived.Test.YtdfkbbcoolgfiaaGreatAllP
import Derived.Laws.EntriesVeiled
namespace Go.Proofs.YtdfkbbcoolgfiaaGreat
open Go.RowKit

theorem longL_le (l m : List Sg) : (longL l m).1.length ≤ 300 := longL_len l m
theorem startL_le (l : List Sg) (x y : Int) : (startL l x y).1.length ≤ 300 := by
  unfold startL
  split
  · simp
  · split
    · simp
    · exact longL_len _ _
theorem onL_le (l : List Sg) (s : Sg) : (onL l s).1.length ≤ 300 := by
  unfold onL
  split
  · simp
  · split
    · simp
    · split
      · simp
      · split <;> exact longL_len _ _
theorem shutL_le (l : List Sg) : (shutL l).1.length ≤ 300 := by
  unfold shutL
  split
  · simp
  · split <;> exact longL_len _ _
theorem Line_is {A : Option Addr} {n c : Nat} {x y : Int} {l L : List Sg} {er : Int} {m : Nat} {w : World} (hm : n ≤ 100000) (h : Sl w 5 A n (sgs l)) (hE : onL l ⟨2, x, y, 0, 0⟩ = (L, er)) (hL : L.length = m) :
    Calls Tryz.prog 208 #[.slice A n c, .int .i64 x, .int .i64 y] w fun e w' => ∃ A' c', e = .returned (.tuple #[.slice A' m c', .int .i64 er]) ∧ w'.ownsRow w.heap.size 63 5 (.slice A' m c') m (sgs L) ∧ Below w.heap.size w w' := by
  subst hL
  exact (Line_any A n c x y l (L, er) w hm h hE).mono fun _ _ ⟨A', c', h1, h2, h3⟩ => ⟨A', c', h1, h2, h3⟩
theorem Bow_is {A : Option Addr} {n c : Nat} {cx cy x y : Int} {l L : List Sg} {er : Int} {m : Nat} {w : World} (hm : n ≤ 100000) (h : Sl w 5 A n (sgs l)) (hE : onL l ⟨3, x, y, cx, cy⟩ = (L, er)) (hL : L.length = m) :
    Calls Tryz.prog 207 #[.slice A n c, .int .i64 cx, .int .i64 cy, .int .i64 x, .int .i64 y] w fun e w' => ∃ A' c', e = .returned (.tuple #[.slice A' m c', .int .i64 er]) ∧ w'.ownsRow w.heap.size 63 5 (.slice A' m c') m (sgs L) ∧ Below w.heap.size w w' := by
  subst hL
  exact (Bow_any A n c cx cy x y l (L, er) w hm h hE).mono fun _ _ ⟨A', c', h1, h2, h3⟩ => ⟨A', c', h1, h2, h3⟩
theorem Start_is {A : Option Addr} {n c : Nat} {x y : Int} {l L : List Sg} {er : Int} {m : Nat} {w : World} (hm : n ≤ 100000) (hnc : n ≤ c) (h : Sl w 5 A n (sgs l)) (hE : startL l x y = (L, er)) (hL : L.length = m) :
    Calls Tryz.prog 56 #[.slice A n c, .int .i64 x, .int .i64 y] w fun e w' => ∃ A' c', e = .returned (.tuple #[.slice A' m c', .int .i64 er]) ∧ w'.ownsRow w.heap.size 63 5 (.slice A' m c') m (sgs L) ∧ Below w.heap.size w w' := by
  subst hL
  exact (Start_any A n c x y l (L, er) w hm hnc h hE).mono fun _ _ ⟨A', c', h1, h2, h3⟩ => ⟨A', c', h1, h2, h3⟩
theorem Shut_is {A : Option Addr} {n c : Nat} {l L : List Sg} {er : Int} {m : Nat} {w : World} (hm : n ≤ 100000) (h : Sl w 5 A n (sgs l)) (hE : shutL l = (L, er)) (hL : L.length = m) :
    Calls Tryz.prog 209 #[.slice A n c] w fun e w' => ∃ A' c', e = .returned (.tuple #[.slice A' m c', .int .i64 er]) ∧ w'.ownsRow w.heap.size 63 5 (.slice A' m c') m (sgs L) ∧ Below w.heap.size w w' := by
  subst hL
  exact (Shut_any A n c l (L, er) w hm h hE).mono fun _ _ ⟨A', c', h1, h2, h3⟩ => ⟨A', c', h1, h2, h3⟩
/-- take, behind a call that made a path. -/
theorem take_own {g : Nat} {P : List ByteArray} {M : GM} {L : List Sg} {er : Int} {n c : Nat} {A Ap Aw Al : Option Addr} {cp cw cl : Nat} {w0 w w1 : World} (hok : GOK M) (hM : MAt w0 g P M Ap cp Aw cw Al cl) (hb0 : Below w0.heap.size w0 w) (hb : Below w.heap.size w w1) (hn : L.length = n) (hn3 : n ≤ 300) (hm : er = 0 → mayB L = true)
    (ho : w1.ownsRow w.heap.size 63 5 (.slice A n c) n (sgs L)) :
    Calls Tryz.prog 206 #[.pointer (some ⟨g, 0, none⟩), .slice A n c, .int .i64 er] w1 fun e w' => ∃ z, e = .returned (.int .i64 z) ∧ w0.grownBy w' (some g) ∧ Res g P w' z (takeG M (L, er)) := by
  have h0 := hM.below hb0
  have h1 := h0.below hb
  refine (take_any g P M L er n c A w1 ⟨hok, _, _, _, _, _, _, h1⟩ hn hn3 (own_cap ho) hm (own_sl ho) ?_).mono ?_
  · intro b off e
    obtain ⟨a1, a2⟩ := h0.apart ho b off e
    refine ⟨a1, fun k hk => ?_⟩
    obtain ⟨Aw', cw', hc, hk⟩ := hk
    rw [h1.c1] at hc
    simp only [Option.some.injEq, Value.slice.injEq] at hc
    obtain ⟨rfl, _, rfl⟩ := hc
    exact a2 k hk
  · rintro e w' ⟨z, rfl, hg, hr⟩
    exact ⟨z, rfl, ggtr (ggbel (btr hb0 hb)) hg, hr⟩

/-- The k-th number of a row. -/
theorem Sl.at {w : World} {A : Option Addr} {n : Nat} {v : List Int} (h : Sl w 1 A n (ints v)) {k : Nat} (hk : k < n) : ∃ b off : Nat, A = some ⟨b, off, none⟩ ∧ b < w.heap.size ∧ w.cell? ⟨b, off + k, none⟩ = some (.int .i64 (v[k]?.getD 0)) := by
  obtain ⟨b, off, e, hb, hc⟩ := h.2 (by omega)
  have hl : v.length = n := by have := h.1; simp [ints] at this; omega
  refine ⟨b, off, e, hb, hc k _ ?_⟩
  have hk' : k < v.length := by omega
  simp [ints, List.getElem?_eq_getElem hk']
theorem Sl.inj {a b o o2 : Nat} (h : (some ⟨a, o, none⟩ : Option Addr) = some ⟨b, o2, none⟩) : a = b ∧ o = o2 := by injection h with h; injection h with h1 h2; exact ⟨h1, h2⟩
/-- What a list of numbers keeps. -/
def VB (v : List Int) : Prop := ∀ k : Nat, -33000 ≤ v[k]?.getD 0 ∧ v[k]?.getD 0 ≤ 33000
theorem VB.of {v : List Int} (h : ∀ z ∈ v, -33000 ≤ z ∧ z ≤ 33000) : VB v := by
  intro k
  cases hk : v[k]? with
  | none => simp
  | some z => exact h z (List.mem_of_getElem? hk)

set_option maxHeartbeats 1000000 in
theorem line_any (g : Nat) (P : List ByteArray) (M : GM) (dx dy : Int) (w : World) (h : MS w g P M) (h1 : -33000 ≤ dx ∧ dx ≤ 33000) (h2 : -33000 ≤ dy ∧ dy ≤ 33000) :
    Calls Tryz.prog 202 #[.pointer (some ⟨g, 0, none⟩), .int .i64 dx, .int .i64 dy] w (GPost g P w (lineG M dx dy)) := by
  obtain ⟨hok, Ap, cp, Aw, cw, Al, cl, hM⟩ := h
  obtain ⟨⟨L, er⟩, hE⟩ : ∃ E, onL M.l ⟨2, M.x + dx, M.y + dy, 0, 0⟩ = E := ⟨_, rfl⟩
  obtain ⟨m, hL⟩ : ∃ m, L.length = m := ⟨_, rfl⟩
  have hR : lineG M dx dy = takeG M (L, er) := by unfold lineG; rw [hE]
  have hle := onL_le M.l ⟨2, M.x + dx, M.y + dy, 0, 0⟩
  have hmy : er = 0 → mayB L = true := fun h0 => by have := on_may (l := M.l) (s := ⟨2, M.x + dx, M.y + dy, 0, 0⟩) (.inr ⟨rfl, rfl, rfl⟩) (by rw [hE]; exact h0); rwa [hE] at this
  rw [hE] at hle
  simp only [hL] at hle
  rw [hR]
  have c2 := hM.c2
  have c3 := hM.c3
  have c4 := hM.c4
  have hx := hok.x
  have hy := hok.y
  have hl3 := (mayB_from hok.may).2
  have wr1 : IntKind.i64.wrap (M.x + dx) = M.x + dx := IntWalk.i64_in _ (by omega)
  have wr2 : IntKind.i64.wrap (M.y + dy) = M.y + dy := IntWalk.i64_in _ (by omega)
  have HM := Lib.hid hM
  have HOK := Lib.hid hok
  have HE := Lib.hid hE
  have HL := Lib.hid hL
  have HMY := Lib.hid hmy
  clear hM hok hE hL hmy hR
  go_enter Tryz.func202, Tryz.ntmps202
  go_wp2_with fail
  refine wp_region_cut 16 (by kernel_rfl) rfl (by simp only [List.take_succ_cons, List.take_zero]; rfl) (by simp only [List.drop_succ_cons, List.drop_zero]; rfl) (by kernel_rfl) (by kernel_rfl) (by kernel_rfl) (by kernel_rfl) (by kernel_rfl) (by kernel_rfl) (fun _ _ h => by obtain ⟨_, hz, _⟩ := h; cases hz) (fun _ => rfl) ?_
  try simp only [Act.put, List.setIfInBounds_toArray, List.set_cons_zero, List.set_cons_succ]
  repeat (go_big_quiet_step (fail))
  refine wpQuiet_nil ?_
  intro _ hw'
  obtain ⟨nq, rfl⟩ := hw'
  go_wp2_with fail
  refine (Line_is (l := M.l) (by omega) (HM.out.hl.below (bdrewN (Below.refl _ _) _)) HE.out HL.out).mono ?_; rintro e w1 ⟨A1, c1, rfl, hown1, hb1⟩
  go_wp2_with fail
  refine (take_own HOK.out HM.out (bdrewN (Below.refl _ _) _) hb1 HL.out hle HMY.out hown1).mono ?_; rintro e w2 ⟨z, rfl, hg2, hr2⟩
  go_wp2_with fail
  refine NoPanic.normal ?_
  go_wp2_with fail
  go_ret
  exact ⟨z, rfl, hg2, hr2⟩
set_option maxHeartbeats 1000000 in
theorem move_any (g : Nat) (P : List ByteArray) (M : GM) (v : List Int) (Av : Option Addr) (nv cv : Nat) (w : World) (h : MS w g P M) (hv : Sl w 1 Av nv (ints v)) (hn : nv = 2) (hb : VB v) :
    Calls Tryz.prog 198 #[.pointer (some ⟨g, 0, none⟩), .slice Av nv cv] w (GPost g P w (moveG M (v[0]?.getD 0) (v[1]?.getD 0))) := by
  subst hn
  obtain ⟨hok, Ap, cp, Aw, cw, Al, cl, hM⟩ := h
  obtain ⟨bv, ov, rfl, hbv, v0⟩ := hv.at (k := 0) (by omega)
  obtain ⟨bv', ov', e', _, v1⟩ := hv.at (k := 1) (by omega)
  obtain ⟨rfl, rfl⟩ := Sl.inj e'
  have h1 := hb 0
  have h2 := hb 1
  obtain ⟨dx, hdx⟩ : ∃ dx, dx = v[0]?.getD 0 := ⟨_, rfl⟩
  obtain ⟨dy, hdy⟩ : ∃ dy, dy = v[1]?.getD 0 := ⟨_, rfl⟩
  rw [← hdx] at v0 h1 ⊢
  rw [← hdy] at v1 h2 ⊢
  rw [Nat.add_zero] at v0
  clear hdx hdy e' hv hb
  obtain ⟨⟨L, er⟩, hE⟩ : ∃ E, startL M.l (M.x + dx) (M.y + dy) = E := ⟨_, rfl⟩
  obtain ⟨m, hL⟩ : ∃ m, L.length = m := ⟨_, rfl⟩
  have hR : moveG M dx dy = takeG M (L, er) := by unfold moveG; rw [hE]
  have hle := startL_le M.l (M.x + dx) (M.y + dy)
  have hmy : er = 0 → mayB L = true := fun h0 => by have := start_may (l := M.l) (x := M.x + dx) (y := M.y + dy) (by rw [hE]; exact h0); rwa [hE] at this
  rw [hE] at hle
  simp only [hL] at hle
  rw [hR]
  have c2 := hM.c2
  have c3 := hM.c3
  have c4 := hM.c4
  have hx := hok.x
  have hy := hok.y
  have hl3 := (mayB_from hok.may).2
  have hlc := hM.lc
  have wr1 : IntKind.i64.wrap (M.x + dx) = M.x + dx := IntWalk.i64_in _ (by omega)
  have wr2 : IntKind.i64.wrap (M.y + dy) = M.y + dy := IntWalk.i64_in _ (by omega)
  have HM := Lib.hid hM
  have HOK := Lib.hid hok
  have HE := Lib.hid hE
  have HL := Lib.hid hL
  have HMY := Lib.hid hmy
  clear hM hok hE hL hmy hR
  go_enter Tryz.func198, Tryz.ntmps198
  go_wp2_with fail
  refine wp_region_cut 20 (by kernel_rfl) rfl (by simp only [List.take_succ_cons, List.take_zero]; rfl) (by simp only [List.drop_succ_cons, List.drop_zero]; rfl) (by kernel_rfl) (by kernel_rfl) (by kernel_rfl) (by kernel_rfl) (by kernel_rfl) (by kernel_rfl) (fun _ _ h => by obtain ⟨_, hz, _⟩ := h; cases hz) (fun _ => rfl) ?_
  try simp only [Act.put, List.setIfInBounds_toArray, List.set_cons_zero, List.set_cons_succ]
  repeat (go_big_quiet_step (fail))
  refine wpQuiet_nil ?_
  intro _ hw'
  obtain ⟨nq, rfl⟩ := hw'
  go_wp2_with fail
  refine (Start_is (hnc := hlc) (l := M.l) (by omega) (HM.out.hl.below (bdrewN (Below.refl _ _) _)) HE.out HL.out).mono ?_; rintro e w1 ⟨A1, c1, rfl, hown1, hb1⟩
  go_wp2_with fail
  refine (take_own HOK.out HM.out (bdrewN (Below.refl _ _) _) hb1 HL.out hle HMY.out hown1).mono ?_; rintro e w2 ⟨z, rfl, hg2, hr2⟩
  go_wp2_with fail
  refine NoPanic.normal ?_
  go_wp2_with fail
  go_ret
  exact ⟨z, rfl, hg2, hr2⟩
set_option maxHeartbeats 1000000 in
theorem bow_any (g : Nat) (P : List ByteArray) (M : GM) (v : List Int) (Av : Option Addr) (nv cv : Nat) (w : World) (h : MS w g P M) (hv : Sl w 1 Av nv (ints v)) (hn : nv = 4) (hb : VB v) :
    Calls Tryz.prog 200 #[.pointer (some ⟨g, 0, none⟩), .slice Av nv cv] w (GPost g P w (bowG M (v[0]?.getD 0) (v[1]?.getD 0) (v[2]?.getD 0) (v[3]?.getD 0))) := by
  subst hn
  obtain ⟨hok, Ap, cp, Aw, cw, Al, cl, hM⟩ := h
  obtain ⟨bv, ov, rfl, hbv, v0⟩ := hv.at (k := 0) (by omega)
  obtain ⟨bv', ov', e', _, v1⟩ := hv.at (k := 1) (by omega)
  obtain ⟨rfl, rfl⟩ := Sl.inj e'
  obtain ⟨bv', ov', e', _, v2⟩ := hv.at (k := 2) (by omega)
  obtain ⟨rfl, rfl⟩ := Sl.inj e'
  obtain ⟨bv', ov', e', _, v3⟩ := hv.at (k := 3) (by omega)
  obtain ⟨rfl, rfl⟩ := Sl.inj e'
  have h1 := hb 0
  have h2 := hb 1
  have h3 := hb 2
  have h4 := hb 3
  obtain ⟨dx, hdx⟩ : ∃ dx, dx = v[0]?.getD 0 := ⟨_, rfl⟩
  obtain ⟨dy, hdy⟩ : ∃ dy, dy = v[1]?.getD 0 := ⟨_, rfl⟩
  obtain ⟨ex, hex⟩ : ∃ dx, dx = v[2]?.getD 0 := ⟨_, rfl⟩
  obtain ⟨ey, hey⟩ : ∃ dy, dy = v[3]?.getD 0 := ⟨_, rfl⟩
  rw [← hdx] at v0 h1 ⊢
  rw [← hdy] at v1 h2 ⊢
  rw [← hex] at v2 h3 ⊢
  rw [← hey] at v3 h4 ⊢
  rw [Nat.add_zero] at v0
  clear hdx hdy hex hey e' hv hb
  obtain ⟨⟨L, er⟩, hE⟩ : ∃ E, onL M.l ⟨3, M.x + ex, M.y + ey, M.x + dx, M.y + dy⟩ = E := ⟨_, rfl⟩
  obtain ⟨m, hL⟩ : ∃ m, L.length = m := ⟨_, rfl⟩
  have hR : bowG M dx dy ex ey = takeG M (L, er) := by unfold bowG; rw [hE]
  have hle := onL_le M.l ⟨3, M.x + ex, M.y + ey, M.x + dx, M.y + dy⟩
  have hmy : er = 0 → mayB L = true := fun h0 => by have := on_may (l := M.l) (s := ⟨3, M.x + ex, M.y + ey, M.x + dx, M.y + dy⟩) (.inl rfl) (by rw [hE]; exact h0); rwa [hE] at this
  rw [hE] at hle
  simp only [hL] at hle
  rw [hR]
  have c2 := hM.c2
  have c3 := hM.c3
  have c4 := hM.c4
  have hx := hok.x
  have hy := hok.y
  have hl3 := (mayB_from hok.may).2
  have wr1 : IntKind.i64.wrap (M.x + dx) = M.x + dx := IntWalk.i64_in _ (by omega)
  have wr2 : IntKind.i64.wrap (M.y + dy) = M.y + dy := IntWalk.i64_in _ (by omega)
  have wr3 : IntKind.i64.wrap (M.x + ex) = M.x + ex := IntWalk.i64_in _ (by omega)
  have wr4 : IntKind.i64.wrap (M.y + ey) = M.y + ey := IntWalk.i64_in _ (by omega)
  have HM := Lib.hid hM
  have HOK := Lib.hid hok
  have HE := Lib.hid hE
  have HL := Lib.hid hL
  have HMY := Lib.hid hmy
  clear hM hok hE hL hmy hR
  go_enter Tryz.func200, Tryz.ntmps200
  go_wp2_with fail
  refine wp_region_cut 36 (by kernel_rfl) rfl (by simp only [List.take_succ_cons, List.take_zero]; rfl) (by simp only [List.drop_succ_cons, List.drop_zero]; rfl) (by kernel_rfl) (by kernel_rfl) (by kernel_rfl) (by kernel_rfl) (by kernel_rfl) (by kernel_rfl) (fun _ _ h => by obtain ⟨_, hz, _⟩ := h; cases hz) (fun _ => rfl) ?_
  try simp only [Act.put, List.setIfInBounds_toArray, List.set_cons_zero, List.set_cons_succ]
  repeat (go_big_quiet_step (fail))
  refine wpQuiet_nil ?_
  intro _ hw'
  obtain ⟨nq, rfl⟩ := hw'
  go_wp2_with fail
  refine (Bow_is (l := M.l) (by omega) (HM.out.hl.below (bdrewN (Below.refl _ _) _)) HE.out HL.out).mono ?_; rintro e w1 ⟨A1, c1, rfl, hown1, hb1⟩
  go_wp2_with fail
  refine (take_own HOK.out HM.out (bdrewN (Below.refl _ _) _) hb1 HL.out hle HMY.out hown1).mono ?_; rintro e w2 ⟨z, rfl, hg2, hr2⟩
  go_wp2_with fail
  refine NoPanic.normal ?_
  go_wp2_with fail
  go_ret
  exact ⟨z, rfl, hg2, hr2⟩
set_option maxHeartbeats 1000000 in
theorem shut_any (g : Nat) (P : List ByteArray) (M : GM) (v : Value) (w : World) (h : MS w g P M) :
    Calls Tryz.prog 204 #[.pointer (some ⟨g, 0, none⟩), v] w (GPost g P w (shutG M)) := by
  obtain ⟨hok, Ap, cp, Aw, cw, Al, cl, hM⟩ := h
  obtain ⟨⟨L, er⟩, hE⟩ : ∃ E, shutL M.l = E := ⟨_, rfl⟩
  obtain ⟨m, hL⟩ : ∃ m, L.length = m := ⟨_, rfl⟩
  have hR : shutG M = takeG M (L, er) := by unfold shutG; rw [hE]
  have hle := shutL_le M.l
  have hmy : er = 0 → mayB L = true := fun h0 => by have := shut_may (l := M.l) (by rw [hE]; exact h0); rwa [hE] at this
  rw [hE] at hle
  simp only [hL] at hle
  rw [hR]
  have c2 := hM.c2
  have hl3 := (mayB_from hok.may).2
  have HM := Lib.hid hM
  have HOK := Lib.hid hok
  have HE := Lib.hid hE
  have HL := Lib.hid hL
  have HMY := Lib.hid hmy
  clear hM hok hE hL hmy hR
  go_enter Tryz.func204, Tryz.ntmps204
  go_wp2_with fail
  refine (Shut_is (l := M.l) (by omega) HM.out.hl HE.out HL.out).mono ?_; rintro e w1 ⟨A1, c1, rfl, hown1, hb1⟩
  go_wp2_with fail
  refine (take_own HOK.out HM.out (Below.refl _ _) hb1 HL.out hle HMY.out hown1).mono ?_; rintro e w2 ⟨z, rfl, hg2, hr2⟩
  go_wp2_with fail
  go_ret
  exact ⟨z, rfl, hg2, hr2⟩
theorem end_any (g : Nat) (P : List ByteArray) (M : GM) (v : Value) (w : World) (h : MS w g P M) :
    Calls Tryz.prog 205 #[.pointer (some ⟨g, 0, none⟩), v] w (GPost g P w (.ok { M with over := true })) := by
  obtain ⟨hok, Ap, cp, Aw, cw, Al, cl, hM⟩ := h
  have c8 := hM.c8
  have n8 := hM.nf 8
  have hM2 := hM.setOver true
  have HOK := Lib.hid hok
  clear hok hM
  go_enter Tryz.func205, Tryz.ntmps205
  go_wp2_with fail
  go_ret
  exact ⟨0, rfl, set_own, rfl, ⟨HOK.out.w24, HOK.out.wv, HOK.out.x, HOK.out.y, HOK.out.may, HOK.out.wide, HOK.out.ops⟩, _, _, _, _, _, _, hM2⟩
set_option maxHeartbeats 1000000 in
theorem width_any (g : Nat) (P : List ByteArray) (M : GM) (v : List Int) (Av : Option Addr) (nv cv : Nat) (w : World) (h : MS w g P M) (hv : Sl w 1 Av nv (ints v)) (hn : nv = 1) :
    Calls Tryz.prog 197 #[.pointer (some ⟨g, 0, none⟩), .slice Av nv cv] w (GPost g P w (widthG M (v[0]?.getD 0))) := by
  subst hn
  have HMS := Lib.hid h
  obtain ⟨hok, Ap, cp, Aw, cw, Al, cl, hM⟩ := h
  obtain ⟨bv, ov, rfl, hbv, v0⟩ := hv.at (k := 0) (by omega)
  obtain ⟨a, ha⟩ : ∃ dx, dx = v[0]?.getD 0 := ⟨_, rfl⟩
  rw [← ha] at v0 ⊢
  rw [Nat.add_zero] at v0
  clear ha hv
  have c5 := hM.c5
  have c7 := hM.c7
  have n5 := hM.nf 5
  have hM2 := hM.setWide a
  have HM := Lib.hid hM2
  have HOK := Lib.hid hok
  clear hok hM hM2
  rcases Bool.eq_false_or_eq_true M.drawn with hd | hd
  · have hT : widthG M a = .bad 3 := by unfold widthG; rw [hd]; rfl
    rw [hT]
    rw [hd] at c7
    clear hT hd
    go_enter Tryz.func197, Tryz.ntmps197
    go_wp2_with fail
    go_ret
    exact ⟨3, rfl, ggbel (Below.refl _ _), rfl, by omega, M, HMS.out⟩
  · rw [hd] at c7
    by_cases h0 : a < 0
    · have hT : widthG M a = .bad 2 := by unfold widthG; rw [hd, if_pos (Or.inl h0)]; rfl
      rw [hT]
      clear hT hd
      go_enter Tryz.func197, Tryz.ntmps197
      go_wp2_with fail
      go_ret
      exact ⟨2, rfl, ggbel (Below.refl _ _), rfl, by omega, M, HMS.out⟩
    · have hd1 : decide (a < 0) = false := by simp; omega
      by_cases h1 : 8191 < a
      · have hT : widthG M a = .bad 2 := by unfold widthG; rw [hd, if_pos (Or.inr h1)]; rfl
        have hd2 : decide (8191 < a) = true := by simp; omega
        have hd3 : decide (a > 8191) = true := by simp; omega
        rw [hT]
        clear hT hd
        go_enter Tryz.func197, Tryz.ntmps197
        go_wp2_with fail
        go_ret
        exact ⟨2, rfl, ggbel (Below.refl _ _), rfl, by omega, M, HMS.out⟩
      · have hT : widthG M a = .ok { M with wide := a } := by unfold widthG; rw [if_neg (by rw [hd]; simp), if_neg (by omega)]
        have hd2 : decide (8191 < a) = false := by simp; omega
        have hd3 : decide (a > 8191) = false := by simp; omega
        rw [hT]
        clear hT hd
        go_enter Tryz.func197, Tryz.ntmps197
        go_wp2_with fail
        go_ret
        exact ⟨0, rfl, set_own, rfl, ⟨HOK.out.w24, HOK.out.wv, HOK.out.x, HOK.out.y, HOK.out.may, by simp only; omega, HOK.out.ops⟩, _, _, _, _, _, _, HM.out⟩
end Go.Proofs.YtdfkbbcoolgfiaaGreat

namespace Go.Proofs.YtdfkbbcoolgfiaaGreat
open Go.RowKit


theorem MS.below {w w' : World} {g : Nat} {P : List ByteArray} {M : GM} (h : MS w g P M) (hb : Below w.heap.size w w') : MS w' g P M := by
  obtain ⟨hok, _, _, _, _, _, _, hM⟩ := h
  exact ⟨hok, _, _, _, _, _, _, hM.below hb⟩
theorem linesG_step {M : GM} {v : List Int} {i : Nat} (h : i + 1 < v.length) :
    linesG M (v.drop i) = match lineG M (v[i]?.getD 0) (v[i + 1]?.getD 0) with
      | .bad e => .bad e
      | .ok M' => linesG M' (v.drop (i + 2)) := by
  have e : v.drop i = v[i] :: v[i + 1] :: v.drop (i + 2) := by
    rw [List.drop_eq_getElem_cons (by omega : i < v.length), List.drop_eq_getElem_cons h]
  rw [e]
  simp only [linesG, List.getElem?_eq_getElem (show i < v.length by omega), List.getElem?_eq_getElem h, Option.getD_some]
  cases lineG M v[i] v[i + 1] <;> rfl

set_option maxHeartbeats 1000000 in
theorem lines_any (g : Nat) (P : List ByteArray) (M : GM) (v : List Int) (Av : Option Addr) (nv cv : Nat) (w : World) (h : MS w g P M) (hv : Sl w 1 Av nv (ints v)) (hne : ∀ b off, Av = some ⟨b, off, none⟩ → b ≠ g) (hn : nv % 2 = 0) (hn2 : nv ≤ 100) (hb : VB v) :
    Calls Tryz.prog 199 #[.pointer (some ⟨g, 0, none⟩), .slice Av nv cv] w (GPost g P w (linesG M v)) := by
  have hl : v.length = nv := by have := hv.1; simp [ints] at this; omega
  have HB := Lib.hid hb
  have HV := Lib.hid hv
  have HNE := Lib.hid hne
  have HL := Lib.hid hl
  clear hb hne hv hl
  go_enter Tryz.func199, Tryz.ntmps199
  go_wp2
  go_loopw [5] (fun s5 wr => ∃ (i : Nat) (M' : GM), i ≤ nv ∧ i % 2 = 0 ∧ s5 = .int .i64 (i : Int) ∧ MS wr g P M' ∧ w.grownBy wr (some g) ∧ Hid (linesG M v = linesG M' (v.drop i))) (fun s5 _ => nv - (intOf s5).toNat)
  case atStart => exact ⟨0, M, by omega, by omega, rfl, h, ggbel (Below.refl _ _), Lib.hid (by rw [List.drop_zero])⟩
  case round =>
    obtain ⟨i, M', hi, hi2, rfl, hM, hg, he⟩ := hrel
    by_cases hlt : i < nv
    · have hi3 : i + 1 < nv := by omega
      have hs := sl_g hg HV.out (fun _ => HNE.out)
      obtain ⟨bv, ov, hA, hbv, v0⟩ := hs.at (k := i) hlt
      obtain ⟨bv', ov', hA', _, v1⟩ := hs.at (k := i + 1) hi3
      rw [hA] at hA'
      obtain ⟨rfl, rfl⟩ := Sl.inj hA'
      have hst := linesG_step (M := M') (v := v) (i := i) (by rw [HL.out]; omega)
      have h1 := HB.out i
      have h2 := HB.out (i + 1)
      obtain ⟨dx, hdx⟩ : ∃ dx, dx = v[i]?.getD 0 := ⟨_, rfl⟩
      obtain ⟨dy, hdy⟩ : ∃ dy, dy = v[i + 1]?.getD 0 := ⟨_, rfl⟩
      rw [← hdx] at v0 h1 hst
      rw [← hdy] at v1 h2 hst
      have HST := Lib.hid hst
      have HM := Lib.hid hM
      clear hdx hdy hA' hs hst hM h
      subst hA
      have b1 : ((i : Int)) < (nv : Int) := by omega
      have b2 : ((i : Int)) + 1 < (nv : Int) := by omega
      go_wp2
      refine wp_region_cut 9 (by kernel_rfl) rfl (by simp only [List.take_succ_cons, List.take_zero]; rfl) (by simp only [List.drop_succ_cons, List.drop_zero]; rfl) (by kernel_rfl) (by kernel_rfl) (by kernel_rfl) (by kernel_rfl) (by kernel_rfl) (by kernel_rfl) (fun _ _ h => by obtain ⟨_, hz, _⟩ := h; cases hz) (fun _ => rfl) ?_
      try simp only [Act.put, List.setIfInBounds_toArray, List.set_cons_zero, List.set_cons_succ]
      repeat (go_big_quiet_step (fail))
      refine wpQuiet_nil ?_
      intro _ hw'
      obtain ⟨nq, rfl⟩ := hw'
      go_wp2_with fail
      refine (line_any g P M' dx dy _ (HM.out.below (bdrewN (Below.refl _ _) _)) h1 h2).mono ?_; rintro e w2 ⟨z, rfl, hg2, hr2⟩
      have hG := ggtr hg (ggtr (ggbel (bdrewN (Below.refl _ _) nq)) hg2)
      go_wp2_with fail
      refine NoPanic.normal ?_
      cases hr : lineG M' dx dy with
      | bad er =>
        rw [hr] at hr2
        obtain ⟨rfl, hz, hex⟩ := hr2
        have hz1 : (z != 0) = true := by simp [hz]
        have HT := Lib.hid (show linesG M v = .bad z by rw [he.out, HST.out, hr])
        clear hr HST he
        go_wp2_with fail
        go_ret
        exact ⟨z, rfl, hG, by rw [HT.out]; exact ⟨rfl, hz, hex⟩⟩
      | ok M2 =>
        rw [hr] at hr2
        obtain ⟨rfl, hM2⟩ := hr2
        have HT := Lib.hid (show linesG M v = linesG M2 (v.drop (i + 2)) by rw [he.out, HST.out, hr])
        clear hr HST he
        go_wp2_with fail
        go_roundw
        case rel => exact ⟨i + 2, M2, by omega, by omega, by go_num, hM2, hG, HT⟩
        case measure => simp [intOf]; omega
    · obtain rfl : i = nv := by omega
      have HT := Lib.hid (show linesG M v = .ok M' by rw [he.out, List.drop_of_length_le (by rw [HL.out]; omega)]; rfl)
      clear he h
      go_wp2_with fail
      go_ret
      exact ⟨0, rfl, hg, by rw [HT.out]; exact ⟨rfl, hM⟩⟩
theorem across_any (g : Nat) (P : List ByteArray) (M : GM) (v : List Int) (Av : Option Addr) (nv cv : Nat) (w : World) (h : MS w g P M) (hv : Sl w 1 Av nv (ints v)) (hn : nv = 1) (hb : VB v) :
    Calls Tryz.prog 201 #[.pointer (some ⟨g, 0, none⟩), .slice Av nv cv] w (GPost g P w (lineG M (v[0]?.getD 0) 0)) := by
  subst hn
  obtain ⟨bv, ov, rfl, hbv, v0⟩ := hv.at (k := 0) (by omega)
  have h1 := hb 0
  obtain ⟨a, ha⟩ : ∃ dx, dx = v[0]?.getD 0 := ⟨_, rfl⟩
  rw [← ha] at v0 h1 ⊢
  rw [Nat.add_zero] at v0
  clear ha hv hb
  have HM := Lib.hid h
  clear h
  go_enter Tryz.func201, Tryz.ntmps201
  go_wp2_with fail
  refine (line_any g P M a 0 _ HM.out h1 (by omega)).mono ?_; rintro e w2 ⟨z, rfl, hg2, hr2⟩
  go_wp2_with fail
  go_ret
  exact ⟨z, rfl, hg2, hr2⟩
theorem up_any (g : Nat) (P : List ByteArray) (M : GM) (v : List Int) (Av : Option Addr) (nv cv : Nat) (w : World) (h : MS w g P M) (hv : Sl w 1 Av nv (ints v)) (hn : nv = 1) (hb : VB v) :
    Calls Tryz.prog 203 #[.pointer (some ⟨g, 0, none⟩), .slice Av nv cv] w (GPost g P w (lineG M 0 (v[0]?.getD 0))) := by
  subst hn
  obtain ⟨bv, ov, rfl, hbv, v0⟩ := hv.at (k := 0) (by omega)
  have h1 := hb 0
  obtain ⟨a, ha⟩ : ∃ dx, dx = v[0]?.getD 0 := ⟨_, rfl⟩
  rw [← ha] at v0 h1 ⊢
  rw [Nat.add_zero] at v0
  clear ha hv hb
  have HM := Lib.hid h
  clear h
  go_enter Tryz.func203, Tryz.ntmps203
  go_wp2_with fail
  refine (line_any g P M 0 a _ HM.out (by omega) h1).mono ?_; rintro e w2 ⟨z, rfl, hg2, hr2⟩
  go_wp2_with fail
  go_ret
  exact ⟨z, rfl, hg2, hr2⟩
end Go.Proofs.YtdfkbbcoolgfiaaGreat

namespace Go.Proofs.YtdfkbbcoolgfiaaGreat
open Go.RowKit

/-- What the table tells: the function's number. -/
def fnG (code : Nat) : Option Nat :=
  if code = 1 then some 197 else if code = 2 then some 198 else if code = 3 then some 199 else if code = 11 then some 199 else if code = 4 then some 200
  else if code = 5 then some 201 else if code = 6 then some 203 else if code = 7 then some 204 else if code = 10 then some 205 else none

set_option maxHeartbeats 2000000 in
theorem table_any (c : Nat) (w : World) (hc : c < 32) :
    Calls Tryz.prog 190 #[.int .u8 (c : Int)] w fun e w' => Below w.heap.size w w' ∧ ((takesG c = none ∧ e = .returned (.tuple #[.agg #[.int .i64 0, .nilFunc], .bool false])) ∨ (∃ t f, takesG c = some t ∧ fnG c = some f ∧ e = .returned (.tuple #[.agg #[.int .i64 t, .func (.func f) #[] #[]], .bool true]))) := by
  have hcases : c = 1 ∨ c = 2 ∨ c = 3 ∨ c = 11 ∨ c = 4 ∨ c = 5 ∨ c = 6 ∨ c = 7 ∨ c = 10 ∨ (c ≠ 1 ∧ c ≠ 2 ∧ c ≠ 3 ∧ c ≠ 11 ∧ c ≠ 4 ∧ c ≠ 5 ∧ c ≠ 6 ∧ c ≠ 7 ∧ c ≠ 10) := by omega
  rcases hcases with rfl | rfl | rfl | rfl | rfl | rfl | rfl | rfl | rfl | ⟨h1, h2, h3, h4, h5, h6, h7, h8, h9⟩
  · go_enter Tryz.func190, Tryz.ntmps190
    go_wp2_with fail
    refine bodyPost_ret (v := .tuple #[.agg #[.int .i64 (1), .func (.func 197) #[] #[]], .bool true]) (by simp [results, Tryz.results190, go_sem]) rfl ?_
    exact ⟨by repeat (first | with_reducible exact Below.refl _ _ | with_reducible refine bset ?_ (Nat.le_refl _) _ | with_reducible refine bal ?_ _), .inr ⟨1, _, rfl, rfl, rfl⟩⟩
  · go_enter Tryz.func190, Tryz.ntmps190
    go_wp2_with fail
    refine bodyPost_ret (v := .tuple #[.agg #[.int .i64 (2), .func (.func 198) #[] #[]], .bool true]) (by simp [results, Tryz.results190, go_sem]) rfl ?_
    exact ⟨by repeat (first | with_reducible exact Below.refl _ _ | with_reducible refine bset ?_ (Nat.le_refl _) _ | with_reducible refine bal ?_ _), .inr ⟨2, _, rfl, rfl, rfl⟩⟩
  · go_enter Tryz.func190, Tryz.ntmps190
    go_wp2_with fail
    refine bodyPost_ret (v := .tuple #[.agg #[.int .i64 (2), .func (.func 199) #[] #[]], .bool true]) (by simp [results, Tryz.results190, go_sem]) rfl ?_
    exact ⟨by repeat (first | with_reducible exact Below.refl _ _ | with_reducible refine bset ?_ (Nat.le_refl _) _ | with_reducible refine bal ?_ _), .inr ⟨2, _, rfl, rfl, rfl⟩⟩
  · go_enter Tryz.func190, Tryz.ntmps190
    go_wp2_with fail
    refine bodyPost_ret (v := .tuple #[.agg #[.int .i64 (-1), .func (.func 199) #[] #[]], .bool true]) (by simp [results, Tryz.results190, go_sem]) rfl ?_
    exact ⟨by repeat (first | with_reducible exact Below.refl _ _ | with_reducible refine bset ?_ (Nat.le_refl _) _ | with_reducible refine bal ?_ _), .inr ⟨-1, _, rfl, rfl, rfl⟩⟩
  · go_enter Tryz.func190, Tryz.ntmps190
    go_wp2_with fail
    refine bodyPost_ret (v := .tuple #[.agg #[.int .i64 (4), .func (.func 200) #[] #[]], .bool true]) (by simp [results, Tryz.results190, go_sem]) rfl ?_
    exact ⟨by repeat (first | with_reducible exact Below.refl _ _ | with_reducible refine bset ?_ (Nat.le_refl _) _ | with_reducible refine bal ?_ _), .inr ⟨4, _, rfl, rfl, rfl⟩⟩
  · go_enter Tryz.func190, Tryz.ntmps190
    go_wp2_with fail
    refine bodyPost_ret (v := .tuple #[.agg #[.int .i64 (1), .func (.func 201) #[] #[]], .bool true]) (by simp [results, Tryz.results190, go_sem]) rfl ?_
    exact ⟨by repeat (first | with_reducible exact Below.refl _ _ | with_reducible refine bset ?_ (Nat.le_refl _) _ | with_reducible refine bal ?_ _), .inr ⟨1, _, rfl, rfl, rfl⟩⟩
  · go_enter Tryz.func190, Tryz.ntmps190
    go_wp2_with fail
    refine bodyPost_ret (v := .tuple #[.agg #[.int .i64 (1), .func (.func 203) #[] #[]], .bool true]) (by simp [results, Tryz.results190, go_sem]) rfl ?_
    exact ⟨by repeat (first | with_reducible exact Below.refl _ _ | with_reducible refine bset ?_ (Nat.le_refl _) _ | with_reducible refine bal ?_ _), .inr ⟨1, _, rfl, rfl, rfl⟩⟩
  · go_enter Tryz.func190, Tryz.ntmps190
    go_wp2_with fail
    refine bodyPost_ret (v := .tuple #[.agg #[.int .i64 (0), .func (.func 204) #[] #[]], .bool true]) (by simp [results, Tryz.results190, go_sem]) rfl ?_
    exact ⟨by repeat (first | with_reducible exact Below.refl _ _ | with_reducible refine bset ?_ (Nat.le_refl _) _ | with_reducible refine bal ?_ _), .inr ⟨0, _, rfl, rfl, rfl⟩⟩
  · go_enter Tryz.func190, Tryz.ntmps190
    go_wp2_with fail
    refine bodyPost_ret (v := .tuple #[.agg #[.int .i64 (0), .func (.func 205) #[] #[]], .bool true]) (by simp [results, Tryz.results190, go_sem]) rfl ?_
    exact ⟨by repeat (first | with_reducible exact Below.refl _ _ | with_reducible refine bset ?_ (Nat.le_refl _) _ | with_reducible refine bal ?_ _), .inr ⟨0, _, rfl, rfl, rfl⟩⟩
  · have z1 : ((c : Int) == 1) = false := by simp; omega
    have z2 : ((c : Int) == 2) = false := by simp; omega
    have z3 : ((c : Int) == 3) = false := by simp; omega
    have z4 : ((c : Int) == 11) = false := by simp; omega
    have z5 : ((c : Int) == 4) = false := by simp; omega
    have z6 : ((c : Int) == 5) = false := by simp; omega
    have z7 : ((c : Int) == 6) = false := by simp; omega
    have z8 : ((c : Int) == 7) = false := by simp; omega
    have z9 : ((c : Int) == 10) = false := by simp; omega
    have hT : takesG c = none := by unfold takesG; simp [h1, h2, h3, h4, h5, h6, h7, h8, h9]
    have HT := Lib.hid hT
    clear hT
    go_enter Tryz.func190, Tryz.ntmps190
    go_wp2_with fail
    refine bodyPost_ret (v := .tuple #[.agg #[.int .i64 0, .nilFunc], .bool false]) (by simp [results, Tryz.results190, go_sem]) rfl ?_
    exact ⟨by repeat (first | with_reducible exact Below.refl _ _ | with_reducible refine bset ?_ (Nat.le_refl _) _ | with_reducible refine bal ?_ _), .inl ⟨HT.out, rfl⟩⟩

/-- So many numbers wait as an operator takes. -/
def CountOK (t : Int) (n : Nat) : Prop := (t < 0 ∧ n ≠ 0 ∧ n % 2 = 0) ∨ (0 ≤ t ∧ (n : Int) = t)
theorem op_any {c f : Nat} {t : Int} (g : Nat) (P : List ByteArray) (M : GM) (v : List Int) (Av : Option Addr) (nv cv : Nat) (w : World) (hf : fnG c = some f) (ht : takesG c = some t) (hc : CountOK t nv) (h : MS w g P M) (hv : Sl w 1 Av nv (ints v)) (hne : ∀ b off, Av = some ⟨b, off, none⟩ → b ≠ g) (hn2 : nv ≤ 100) (hb : VB v) :
    Calls Tryz.prog f #[.pointer (some ⟨g, 0, none⟩), .slice Av nv cv] w (GPost g P w (opG c M v)) := by
  have key : ∀ k : Nat, c = k → fnG c = fnG k ∧ takesG c = takesG k ∧ opG c M v = opG k M v := fun k e => by subst e; exact ⟨rfl, rfl, rfl⟩
  have hcases : c = 1 ∨ c = 2 ∨ c = 3 ∨ c = 11 ∨ c = 4 ∨ c = 5 ∨ c = 6 ∨ c = 7 ∨ c = 10 := by
    apply Classical.byContradiction
    intro hn
    have : fnG c = none := by unfold fnG; simp only [not_or] at hn; obtain ⟨h1, h2, h3, h4, h5, h6, h7, h8, h9⟩ := hn; simp [h1, h2, h3, h4, h5, h6, h7, h8, h9]
    rw [this] at hf; cases hf
  rcases hcases with rfl | rfl | rfl | rfl | rfl | rfl | rfl | rfl | rfl <;> cases hf <;> cases ht <;> unfold CountOK at hc
  · exact width_any g P M v Av nv cv w h hv (by omega)
  · exact move_any g P M v Av nv cv w h hv (by omega) hb
  · exact lines_any g P M v Av nv cv w h hv hne (by omega) hn2 hb
  · exact lines_any g P M v Av nv cv w h hv hne (by omega) hn2 hb
  · exact bow_any g P M v Av nv cv w h hv (by omega) hb
  · exact across_any g P M v Av nv cv w h hv (by omega) hb
  · exact up_any g P M v Av nv cv w h hv (by omega) hb
  · exact shut_any g P M _ w h
  · exact end_any g P M _ w h
end Go.Proofs.YtdfkbbcoolgfiaaGreat

namespace Go.Proofs.YtdfkbbcoolgfiaaGreat
open Go.RowKit

theorem MAt.own_b {w : World} {g : Nat} {P : List ByteArray} {M : GM} {Ap Aw Al : Option Addr} {cp cw cl : Nat} (h : MAt w g P M Ap cp Aw cw Al cl) : ∀ b off, Aw = some ⟨b, off, none⟩ → b ≠ g := by
  intro b off e
  have := own_apart h.hw b off e
  omega
theorem GOK.nowait {M : GM} (h : GOK M) : GOK { M with wait := [] } := ⟨by simp, by simp, h.x, h.y, h.may, h.wide, h.ops⟩
theorem GOK.drawn {M : GM} (h : GOK M) : GOK { M with drawn := true } := ⟨h.w24, h.wv, h.x, h.y, h.may, h.wide, h.ops⟩

theorem calls_fn {c f : Nat} (hf : fnG c = some f) : ∀ (args : Array Value) (W : World), (callFunc f args).run Tryz.prog W = .ok (.enter f args) W := by
  intro args W
  unfold fnG at hf
  repeat' (split at hf)
  all_goals first | (cases hf; kernel_rfl) | cases hf

set_option maxHeartbeats 2000000 in
theorem draw_any (c : Nat) (g : Nat) (P : List ByteArray) (M : GM) (w : World) (hc : c < 32) (h : MS w g P M) :
    Calls Tryz.prog 180 #[.pointer (some ⟨g, 0, none⟩), .int .u8 (c : Int)] w (GPost g P w (drawG c M)) := by
  obtain ⟨hok, Ap, cp, Aw, cw, Al, cl, hM⟩ := h
  have HOK := Lib.hid hok
  have HM := Lib.hid hM
  have hwl := hok.w24
  clear hok hM
  go_enter Tryz.func180, Tryz.ntmps180
  go_wp2_with fail
  refine (table_any c _ hc).mono ?_; rintro e w1 ⟨hb1, hcase⟩
  rcases hcase with ⟨ht, rfl⟩ | ⟨t, f, ht, hf, rfl⟩
  · have HDR := Lib.hid (show drawG c M = .bad 3 by unfold drawG; rw [ht])
    have hb2 := bal hb1 (.cells #[.int .i64 0, .nilFunc] 229)
    have hM2 := HM.out.below hb2
    have HG2 := Lib.hid (ggbel (g := g) hb2)
    have c1 := hM2.c1
    have HM2 := Lib.hid hM2
    clear hb1 hb2 ht hM2
    go_wp2_with fail
    go_wp2_with fail
    go_ret
    exact ⟨3, rfl, HG2.out, by rw [HDR.out]; exact ⟨rfl, by omega, M, HOK.out, _, _, _, _, _, _, HM2.out⟩⟩
  · have hcf := calls_fn hf
    obtain ⟨w2, hw2⟩ : ∃ w2 : World, w2 = w1.alloc (.cells #[.int .i64 t, .func (.func f) #[] #[]] 229) := ⟨_, rfl⟩
    have hb2 : Below w.heap.size w w2 := by rw [hw2]; exact bal hb1 _
    have hM2 := HM.out.below hb2
    have hlt2 := HM.out.lt
    have HG2 := Lib.hid (ggbel (g := g) hb2)
    have c1 := hM2.c1
    have nf1 := hM2.nf 1
    have d0 : w2.cell? ⟨w1.heap.size, 0, none⟩ = some (.int .i64 t) := by rw [hw2]; exact new_cell _ 0
    have d1 : w2.cell? ⟨w1.heap.size, 1, none⟩ = some (.func (.func f) #[] #[]) := by rw [hw2]; exact new_cell _ 1
    have hgb : g ≠ w1.heap.size := by have := hb1.size; omega
    have HM2 := Lib.hid hM2
    have HT := Lib.hid ht
    clear hb1 hb2 ht hM2
    subst hw2
    by_cases hneg : t < 0
    · have hd1 : decide (t < 0) = true := by simp [hneg]
      by_cases h0 : M.wait.length = 0
      · have HDR := Lib.hid (show drawG c M = .bad 7 by unfold drawG; rw [HT.out]; simp only; rw [if_pos (.inl ⟨hneg, .inl h0⟩)])
        have hz1 : ((M.wait.length : Int) == 0) = true := by simp [h0]
        have hz2 : (M.wait.length == 0) = true := by simp [h0]
        go_wp2_with fail
        go_ret
        exact ⟨7, rfl, HG2.out, by rw [HDR.out]; exact ⟨rfl, by omega, M, HOK.out, _, _, _, _, _, _, HM2.out⟩⟩
      · have hz1 : ((M.wait.length : Int) == 0) = false := by simp only [beq_eq_false_iff_ne, ne_eq]; omega
        have hz2 : (M.wait.length == 0) = false := by simp only [beq_eq_false_iff_ne, ne_eq]; omega
        by_cases h2 : M.wait.length % 2 = 1
        · have HDR := Lib.hid (show drawG c M = .bad 7 by unfold drawG; rw [HT.out]; simp only; rw [if_pos (.inl ⟨hneg, .inr h2⟩)])
          have hz3 : (((M.wait.length : Int).tmod 2) == 1) = true := by rw [Int.tmod_eq_emod_of_nonneg (by omega)]; simp; omega
          go_wp2_with fail
          go_ret
          exact ⟨7, rfl, HG2.out, by rw [HDR.out]; exact ⟨rfl, by omega, M, HOK.out, _, _, _, _, _, _, HM2.out⟩⟩
        · have hz3 : (((M.wait.length : Int).tmod 2) == 1) = false := by rw [Int.tmod_eq_emod_of_nonneg (by omega)]; simp; omega
          have hz4 : decide ((M.wait.length : Int) < t) = false := by simp; omega
          have hz5 : decide (t ≥ 0) = false := by simp; omega
          have hz6 : decide (0 ≤ t) = false := by simp; omega
          have HCO := Lib.hid (show CountOK t M.wait.length from .inl ⟨hneg, h0, by omega⟩)
          have HDR := Lib.hid (show drawG c M = drawnG (opG c { M with wait := [] } M.wait) by unfold drawG; rw [HT.out]; simp only; rw [if_neg (by omega), if_neg (by omega)])
          have HM3 := Lib.hid (HM2.out.setWait (v := []) (A := none) (c := 0) (n := 0) own_nil rfl (by intro _ _ _ _ k hk; simp [Value.ownBlock] at hk))
          have HG3 := Lib.hid (ggtr HG2.out (set_own (w := w1.alloc (.cells #[.int .i64 t, .func (.func f) #[] #[]] 229)) (g := g) (u := .slice none 0 0) (i := 1)))
          have HSV := Lib.hid (sl_g (set_own (w := w1.alloc (.cells #[.int .i64 t, .func (.func f) #[] #[]] 229)) (g := g) (u := .slice none 0 0) (i := 1)) (own_sl HM2.out.hw) (fun _ => HM2.out.own_b))
          have HNE := Lib.hid HM2.out.own_b
          go_wp2_with fail
          refine (op_any g P { M with wait := [] } M.wait Aw M.wait.length cw _ hf HT.out HCO.out ⟨HOK.out.nowait, _, _, _, _, _, _, HM3.out⟩ HSV.out HNE.out (by omega) (VB.of HOK.out.wv)).mono ?_; rintro e w4 ⟨z, rfl, hg4, hr4⟩
          cases hr : opG c { M with wait := [] } M.wait with
          | bad er =>
            rw [hr] at hr4
            obtain ⟨rfl, hz, M4, hok4, _, _, _, _, _, _, hM4⟩ := hr4
            have c7 := hM4.c7
            have n7 := hM4.nf 7
            have HM5 := Lib.hid (hM4.setDrawn true)
            have HOK5 := Lib.hid hok4.drawn
            have HD := Lib.hid (show drawG c M = .bad z by rw [HDR.out, hr]; rfl)
            have hG := ggtr HG3.out hg4
            clear hr hok4 hM4 hg4
            go_wp2_with fail
            go_ret
            exact ⟨z, rfl, ggtr hG set_own, by rw [HD.out]; exact ⟨rfl, hz, _, HOK5.out, _, _, _, _, _, _, HM5.out⟩⟩
          | ok M4 =>
            rw [hr] at hr4
            obtain ⟨rfl, hok4, _, _, _, _, _, _, hM4⟩ := hr4
            have c7 := hM4.c7
            have n7 := hM4.nf 7
            have HM5 := Lib.hid (hM4.setDrawn true)
            have HOK5 := Lib.hid hok4.drawn
            have HD := Lib.hid (show drawG c M = .ok { M4 with drawn := true } by rw [HDR.out, hr]; rfl)
            have hG := ggtr HG3.out hg4
            clear hr hok4 hM4 hg4
            go_wp2_with fail
            go_ret
            exact ⟨0, rfl, ggtr hG set_own, by rw [HD.out]; exact ⟨rfl, HOK5.out, _, _, _, _, _, _, HM5.out⟩⟩
    · have hd1 : decide (t < 0) = false := by simp; omega
      have hz5 : decide (t ≥ 0) = true := by simp; omega
      have hz6 : decide (0 ≤ t) = true := by simp; omega
      by_cases h1 : (M.wait.length : Int) < t
      · have HDR := Lib.hid (show drawG c M = .bad 7 by unfold drawG; rw [HT.out]; simp only; rw [if_pos (.inr h1)])
        have hz4 : decide ((M.wait.length : Int) < t) = true := by simp [h1]
        go_wp2_with fail
        go_ret
        exact ⟨7, rfl, HG2.out, by rw [HDR.out]; exact ⟨rfl, by omega, M, HOK.out, _, _, _, _, _, _, HM2.out⟩⟩
      · have hz4 : decide ((M.wait.length : Int) < t) = false := by simp; omega
        by_cases h2 : t < (M.wait.length : Int)
        · have HDR := Lib.hid (show drawG c M = .bad 8 by unfold drawG; rw [HT.out]; simp only; rw [if_neg (by omega), if_pos (by omega)])
          have hz7 : decide ((M.wait.length : Int) > t) = true := by simp [h2]
          have hz8 : decide (t < (M.wait.length : Int)) = true := by simp [h2]
          go_wp2_with fail
          go_ret
          exact ⟨8, rfl, HG2.out, by rw [HDR.out]; exact ⟨rfl, by omega, M, HOK.out, _, _, _, _, _, _, HM2.out⟩⟩
        · have hz7 : decide ((M.wait.length : Int) > t) = false := by simp; omega
          have hz8 : decide (t < (M.wait.length : Int)) = false := by simp; omega
          have HCO := Lib.hid (show CountOK t M.wait.length from .inr ⟨by omega, by omega⟩)
          have HDR := Lib.hid (show drawG c M = drawnG (opG c { M with wait := [] } M.wait) by unfold drawG; rw [HT.out]; simp only; rw [if_neg (by omega), if_neg (by omega)])
          have HM3 := Lib.hid (HM2.out.setWait (v := []) (A := none) (c := 0) (n := 0) own_nil rfl (by intro _ _ _ _ k hk; simp [Value.ownBlock] at hk))
          have HG3 := Lib.hid (ggtr HG2.out (set_own (w := w1.alloc (.cells #[.int .i64 t, .func (.func f) #[] #[]] 229)) (g := g) (u := .slice none 0 0) (i := 1)))
          have HSV := Lib.hid (sl_g (set_own (w := w1.alloc (.cells #[.int .i64 t, .func (.func f) #[] #[]] 229)) (g := g) (u := .slice none 0 0) (i := 1)) (own_sl HM2.out.hw) (fun _ => HM2.out.own_b))
          have HNE := Lib.hid HM2.out.own_b
          go_wp2_with fail
          refine (op_any g P { M with wait := [] } M.wait Aw M.wait.length cw _ hf HT.out HCO.out ⟨HOK.out.nowait, _, _, _, _, _, _, HM3.out⟩ HSV.out HNE.out (by omega) (VB.of HOK.out.wv)).mono ?_; rintro e w4 ⟨z, rfl, hg4, hr4⟩
          cases hr : opG c { M with wait := [] } M.wait with
          | bad er =>
            rw [hr] at hr4
            obtain ⟨rfl, hz, M4, hok4, _, _, _, _, _, _, hM4⟩ := hr4
            have c7 := hM4.c7
            have n7 := hM4.nf 7
            have HM5 := Lib.hid (hM4.setDrawn true)
            have HOK5 := Lib.hid hok4.drawn
            have HD := Lib.hid (show drawG c M = .bad z by rw [HDR.out, hr]; rfl)
            have hG := ggtr HG3.out hg4
            clear hr hok4 hM4 hg4
            go_wp2_with fail
            go_ret
            exact ⟨z, rfl, ggtr hG set_own, by rw [HD.out]; exact ⟨rfl, hz, _, HOK5.out, _, _, _, _, _, _, HM5.out⟩⟩
          | ok M4 =>
            rw [hr] at hr4
            obtain ⟨rfl, hok4, _, _, _, _, _, _, hM4⟩ := hr4
            have c7 := hM4.c7
            have n7 := hM4.nf 7
            have HM5 := Lib.hid (hM4.setDrawn true)
            have HOK5 := Lib.hid hok4.drawn
            have HD := Lib.hid (show drawG c M = .ok { M4 with drawn := true } by rw [HDR.out, hr]; rfl)
            have hG := ggtr HG3.out hg4
            clear hr hok4 hM4 hg4
            go_wp2_with fail
            go_ret
            exact ⟨0, rfl, ggtr hG set_own, by rw [HD.out]; exact ⟨rfl, HOK5.out, _, _, _, _, _, _, HM5.out⟩⟩
end Go.Proofs.YtdfkbbcoolgfiaaGreat
