/- Letters' programs: the operators. -/
import Derived.Test.YtaphmonpdnbiiaaGlyph1
import Derived.Test.YtaphmonpdnbiiaaAllP
namespace Go.Proofs.Ytaphmonpdnbiiaa
open Go.RowKit

theorem longL_le (l m : List Sg) : (longL l m).1.length ≤ 300 := longL_len l m
theorem startL_le (l : List Sg) (x y : Int) : (startL l x y).1.length ≤ 300 := by
  unfold startL
  split
  · simp
  · split
    · simp
    · exact longL_len _ _
theorem onL_le (l : List Sg) (s : Sg) : (onL l s).1.length ≤ 300 := by
  unfold onL
  split
  · simp
  · split
    · simp
    · split
      · simp
      · split <;> exact longL_len _ _
theorem shutL_le (l : List Sg) : (shutL l).1.length ≤ 300 := by
  unfold shutL
  split
  · simp
  · split <;> exact longL_len _ _
theorem Line_is {A : Option Addr} {n c : Nat} {x y : Int} {l L : List Sg} {er : Int} {m : Nat} {w : World} (hm : n ≤ 100000) (h : Sl w 5 A n (sgs l)) (hE : onL l ⟨2, x, y, 0, 0⟩ = (L, er)) (hL : L.length = m) :
    Calls Try.prog 81 #[.slice A n c, .int .i64 x, .int .i64 y] w fun e w' => ∃ A' c', e = .returned (.tuple #[.slice A' m c', .int .i64 er]) ∧ w'.ownsRow w.heap.size 42 5 (.slice A' m c') m (sgs L) ∧ Below w.heap.size w w' := by
  subst hL
  exact (Line_any A n c x y l (L, er) w hm h hE).mono fun _ _ ⟨A', c', h1, h2, h3⟩ => ⟨A', c', h1, h2, h3⟩
theorem Bow_is {A : Option Addr} {n c : Nat} {cx cy x y : Int} {l L : List Sg} {er : Int} {m : Nat} {w : World} (hm : n ≤ 100000) (h : Sl w 5 A n (sgs l)) (hE : onL l ⟨3, x, y, cx, cy⟩ = (L, er)) (hL : L.length = m) :
    Calls Try.prog 80 #[.slice A n c, .int .i64 cx, .int .i64 cy, .int .i64 x, .int .i64 y] w fun e w' => ∃ A' c', e = .returned (.tuple #[.slice A' m c', .int .i64 er]) ∧ w'.ownsRow w.heap.size 42 5 (.slice A' m c') m (sgs L) ∧ Below w.heap.size w w' := by
  subst hL
  exact (Bow_any A n c cx cy x y l (L, er) w hm h hE).mono fun _ _ ⟨A', c', h1, h2, h3⟩ => ⟨A', c', h1, h2, h3⟩
theorem Start_is {A : Option Addr} {n c : Nat} {x y : Int} {l L : List Sg} {er : Int} {m : Nat} {w : World} (hm : n ≤ 100000) (hnc : n ≤ c) (h : Sl w 5 A n (sgs l)) (hE : startL l x y = (L, er)) (hL : L.length = m) :
    Calls Try.prog 79 #[.slice A n c, .int .i64 x, .int .i64 y] w fun e w' => ∃ A' c', e = .returned (.tuple #[.slice A' m c', .int .i64 er]) ∧ w'.ownsRow w.heap.size 42 5 (.slice A' m c') m (sgs L) ∧ Below w.heap.size w w' := by
  subst hL
  exact (Start_any A n c x y l (L, er) w hm hnc h hE).mono fun _ _ ⟨A', c', h1, h2, h3⟩ => ⟨A', c', h1, h2, h3⟩
theorem Shut_is {A : Option Addr} {n c : Nat} {l L : List Sg} {er : Int} {m : Nat} {w : World} (hm : n ≤ 100000) (h : Sl w 5 A n (sgs l)) (hE : shutL l = (L, er)) (hL : L.length = m) :
    Calls Try.prog 82 #[.slice A n c] w fun e w' => ∃ A' c', e = .returned (.tuple #[.slice A' m c', .int .i64 er]) ∧ w'.ownsRow w.heap.size 42 5 (.slice A' m c') m (sgs L) ∧ Below w.heap.size w w' := by
  subst hL
  exact (Shut_any A n c l (L, er) w hm h hE).mono fun _ _ ⟨A', c', h1, h2, h3⟩ => ⟨A', c', h1, h2, h3⟩
/-- take, behind a call that made a path. -/
theorem take_own {g : Nat} {P : List ByteArray} {M : GM} {L : List Sg} {er : Int} {n c : Nat} {A Ap Aw Al : Option Addr} {cp cw cl : Nat} {w0 w w1 : World} (hok : GOK M) (hM : MAt w0 g P M Ap cp Aw cw Al cl) (hb0 : Below w0.heap.size w0 w) (hb : Below w.heap.size w w1) (hn : L.length = n) (hn3 : n ≤ 300) (hm : er = 0 → mayB L = true)
    (ho : w1.ownsRow w.heap.size 42 5 (.slice A n c) n (sgs L)) :
    Calls Try.prog 78 #[.pointer (some ⟨g, 0, none⟩), .slice A n c, .int .i64 er] w1 fun e w' => ∃ z, e = .returned (.int .i64 z) ∧ w0.grownBy w' (some g) ∧ Res g P w' z (takeG M (L, er)) := by
  have h0 := hM.below hb0
  have h1 := h0.below hb
  refine (take_any g P M L er n c A w1 ⟨hok, _, _, _, _, _, _, h1⟩ hn hn3 (own_cap ho) hm (own_sl ho) ?_).mono ?_
  · intro b off e
    obtain ⟨a1, a2⟩ := h0.apart ho b off e
    refine ⟨a1, fun k hk => ?_⟩
    obtain ⟨Aw', cw', hc, hk⟩ := hk
    rw [h1.c1] at hc
    simp only [Option.some.injEq, Value.slice.injEq] at hc
    obtain ⟨rfl, _, rfl⟩ := hc
    exact a2 k hk
  · rintro e w' ⟨z, rfl, hg, hr⟩
    exact ⟨z, rfl, ggtr (ggbel (btr hb0 hb)) hg, hr⟩

/-- The k-th number of a row. -/
theorem Sl.at {w : World} {A : Option Addr} {n : Nat} {v : List Int} (h : Sl w 1 A n (ints v)) {k : Nat} (hk : k < n) : ∃ b off : Nat, A = some ⟨b, off, none⟩ ∧ b < w.heap.size ∧ w.cell? ⟨b, off + k, none⟩ = some (.int .i64 (v[k]?.getD 0)) := by
  obtain ⟨b, off, e, hb, hc⟩ := h.2 (by omega)
  have hl : v.length = n := by have := h.1; simp [ints] at this; omega
  refine ⟨b, off, e, hb, hc k _ ?_⟩
  have hk' : k < v.length := by omega
  simp [ints, List.getElem?_eq_getElem hk']
theorem Sl.inj {a b o o2 : Nat} (h : (some ⟨a, o, none⟩ : Option Addr) = some ⟨b, o2, none⟩) : a = b ∧ o = o2 := by injection h with h; injection h with h1 h2; exact ⟨h1, h2⟩
/-- What a list of numbers keeps. -/
def VB (v : List Int) : Prop := ∀ k : Nat, -33000 ≤ v[k]?.getD 0 ∧ v[k]?.getD 0 ≤ 33000
theorem VB.of {v : List Int} (h : ∀ z ∈ v, -33000 ≤ z ∧ z ≤ 33000) : VB v := by
  intro k
  cases hk : v[k]? with
  | none => simp
  | some z => exact h z (List.mem_of_getElem? hk)

set_option maxHeartbeats 1000000 in
theorem line_any (g : Nat) (P : List ByteArray) (M : GM) (dx dy : Int) (w : World) (h : MS w g P M) (h1 : -33000 ≤ dx ∧ dx ≤ 33000) (h2 : -33000 ≤ dy ∧ dy ≤ 33000) :
    Calls Try.prog 74 #[.pointer (some ⟨g, 0, none⟩), .int .i64 dx, .int .i64 dy] w (GPost g P w (lineG M dx dy)) := by
  obtain ⟨hok, Ap, cp, Aw, cw, Al, cl, hM⟩ := h
  obtain ⟨⟨L, er⟩, hE⟩ : ∃ E, onL M.l ⟨2, M.x + dx, M.y + dy, 0, 0⟩ = E := ⟨_, rfl⟩
  obtain ⟨m, hL⟩ : ∃ m, L.length = m := ⟨_, rfl⟩
  have hR : lineG M dx dy = takeG M (L, er) := by unfold lineG; rw [hE]
  have hle := onL_le M.l ⟨2, M.x + dx, M.y + dy, 0, 0⟩
  have hmy : er = 0 → mayB L = true := fun h0 => by have := on_may (l := M.l) (s := ⟨2, M.x + dx, M.y + dy, 0, 0⟩) (.inr ⟨rfl, rfl, rfl⟩) (by rw [hE]; exact h0); rwa [hE] at this
  rw [hE] at hle
  simp only [hL] at hle
  rw [hR]
  have c2 := hM.c2
  have c3 := hM.c3
  have c4 := hM.c4
  have hx := hok.x
  have hy := hok.y
  have hl3 := (mayB_from hok.may).2
  have wr1 : IntKind.i64.wrap (M.x + dx) = M.x + dx := IntWalk.i64_in _ (by omega)
  have wr2 : IntKind.i64.wrap (M.y + dy) = M.y + dy := IntWalk.i64_in _ (by omega)
  have HM := Lib.hid hM
  have HOK := Lib.hid hok
  have HE := Lib.hid hE
  have HL := Lib.hid hL
  have HMY := Lib.hid hmy
  clear hM hok hE hL hmy hR
  go_enter Try.func74, Try.ntmps74
  go_wp2_with fail
  refine wp_region_cut 16 (by kernel_rfl) rfl (by simp only [List.take_succ_cons, List.take_zero]; rfl) (by simp only [List.drop_succ_cons, List.drop_zero]; rfl) (by kernel_rfl) (by kernel_rfl) (by kernel_rfl) (by kernel_rfl) (by kernel_rfl) (by kernel_rfl) (fun _ _ h => by obtain ⟨_, hz, _⟩ := h; cases hz) (fun _ => rfl) ?_
  try simp only [Act.put, List.setIfInBounds_toArray, List.set_cons_zero, List.set_cons_succ]
  repeat (go_big_quiet_step (fail))
  refine wpQuiet_nil ?_
  intro _ hw'
  obtain ⟨nq, rfl⟩ := hw'
  go_wp2_with fail
  refine (Line_is (l := M.l) (by omega) (HM.out.hl.below (bdrewN (Below.refl _ _) _)) HE.out HL.out).mono ?_; rintro e w1 ⟨A1, c1, rfl, hown1, hb1⟩
  go_wp2_with fail
  refine (take_own HOK.out HM.out (bdrewN (Below.refl _ _) _) hb1 HL.out hle HMY.out hown1).mono ?_; rintro e w2 ⟨z, rfl, hg2, hr2⟩
  go_wp2_with fail
  refine NoPanic.normal ?_
  go_wp2_with fail
  go_ret
  exact ⟨z, rfl, hg2, hr2⟩
set_option maxHeartbeats 1000000 in
theorem move_any (g : Nat) (P : List ByteArray) (M : GM) (v : List Int) (Av : Option Addr) (nv cv : Nat) (w : World) (h : MS w g P M) (hv : Sl w 1 Av nv (ints v)) (hn : nv = 2) (hb : VB v) :
    Calls Try.prog 70 #[.pointer (some ⟨g, 0, none⟩), .slice Av nv cv] w (GPost g P w (moveG M (v[0]?.getD 0) (v[1]?.getD 0))) := by
  subst hn
  obtain ⟨hok, Ap, cp, Aw, cw, Al, cl, hM⟩ := h
  obtain ⟨bv, ov, rfl, hbv, v0⟩ := hv.at (k := 0) (by omega)
  obtain ⟨bv', ov', e', _, v1⟩ := hv.at (k := 1) (by omega)
  obtain ⟨rfl, rfl⟩ := Sl.inj e'
  have h1 := hb 0
  have h2 := hb 1
  obtain ⟨dx, hdx⟩ : ∃ dx, dx = v[0]?.getD 0 := ⟨_, rfl⟩
  obtain ⟨dy, hdy⟩ : ∃ dy, dy = v[1]?.getD 0 := ⟨_, rfl⟩
  rw [← hdx] at v0 h1 ⊢
  rw [← hdy] at v1 h2 ⊢
  rw [Nat.add_zero] at v0
  clear hdx hdy e' hv hb
  obtain ⟨⟨L, er⟩, hE⟩ : ∃ E, startL M.l (M.x + dx) (M.y + dy) = E := ⟨_, rfl⟩
  obtain ⟨m, hL⟩ : ∃ m, L.length = m := ⟨_, rfl⟩
  have hR : moveG M dx dy = takeG M (L, er) := by unfold moveG; rw [hE]
  have hle := startL_le M.l (M.x + dx) (M.y + dy)
  have hmy : er = 0 → mayB L = true := fun h0 => by have := start_may (l := M.l) (x := M.x + dx) (y := M.y + dy) (by rw [hE]; exact h0); rwa [hE] at this
  rw [hE] at hle
  simp only [hL] at hle
  rw [hR]
  have c2 := hM.c2
  have c3 := hM.c3
  have c4 := hM.c4
  have hx := hok.x
  have hy := hok.y
  have hl3 := (mayB_from hok.may).2
  have hlc := hM.lc
  have wr1 : IntKind.i64.wrap (M.x + dx) = M.x + dx := IntWalk.i64_in _ (by omega)
  have wr2 : IntKind.i64.wrap (M.y + dy) = M.y + dy := IntWalk.i64_in _ (by omega)
  have HM := Lib.hid hM
  have HOK := Lib.hid hok
  have HE := Lib.hid hE
  have HL := Lib.hid hL
  have HMY := Lib.hid hmy
  clear hM hok hE hL hmy hR
  go_enter Try.func70, Try.ntmps70
  go_wp2_with fail
  refine wp_region_cut 20 (by kernel_rfl) rfl (by simp only [List.take_succ_cons, List.take_zero]; rfl) (by simp only [List.drop_succ_cons, List.drop_zero]; rfl) (by kernel_rfl) (by kernel_rfl) (by kernel_rfl) (by kernel_rfl) (by kernel_rfl) (by kernel_rfl) (fun _ _ h => by obtain ⟨_, hz, _⟩ := h; cases hz) (fun _ => rfl) ?_
  try simp only [Act.put, List.setIfInBounds_toArray, List.set_cons_zero, List.set_cons_succ]
  repeat (go_big_quiet_step (fail))
  refine wpQuiet_nil ?_
  intro _ hw'
  obtain ⟨nq, rfl⟩ := hw'
  go_wp2_with fail
  refine (Start_is (hnc := hlc) (l := M.l) (by omega) (HM.out.hl.below (bdrewN (Below.refl _ _) _)) HE.out HL.out).mono ?_; rintro e w1 ⟨A1, c1, rfl, hown1, hb1⟩
  go_wp2_with fail
  refine (take_own HOK.out HM.out (bdrewN (Below.refl _ _) _) hb1 HL.out hle HMY.out hown1).mono ?_; rintro e w2 ⟨z, rfl, hg2, hr2⟩
  go_wp2_with fail
  refine NoPanic.normal ?_
  go_wp2_with fail
  go_ret
  exact ⟨z, rfl, hg2, hr2⟩
set_option maxHeartbeats 1000000 in
theorem bow_any (g : Nat) (P : List ByteArray) (M : GM) (v : List Int) (Av : Option Addr) (nv cv : Nat) (w : World) (h : MS w g P M) (hv : Sl w 1 Av nv (ints v)) (hn : nv = 4) (hb : VB v) :
    Calls Try.prog 72 #[.pointer (some ⟨g, 0, none⟩), .slice Av nv cv] w (GPost g P w (bowG M (v[0]?.getD 0) (v[1]?.getD 0) (v[2]?.getD 0) (v[3]?.getD 0))) := by
  subst hn
  obtain ⟨hok, Ap, cp, Aw, cw, Al, cl, hM⟩ := h
  obtain ⟨bv, ov, rfl, hbv, v0⟩ := hv.at (k := 0) (by omega)
  obtain ⟨bv', ov', e', _, v1⟩ := hv.at (k := 1) (by omega)
  obtain ⟨rfl, rfl⟩ := Sl.inj e'
  obtain ⟨bv', ov', e', _, v2⟩ := hv.at (k := 2) (by omega)
  obtain ⟨rfl, rfl⟩ := Sl.inj e'
  obtain ⟨bv', ov', e', _, v3⟩ := hv.at (k := 3) (by omega)
  obtain ⟨rfl, rfl⟩ := Sl.inj e'
  have h1 := hb 0
  have h2 := hb 1
  have h3 := hb 2
  have h4 := hb 3
  obtain ⟨dx, hdx⟩ : ∃ dx, dx = v[0]?.getD 0 := ⟨_, rfl⟩
  obtain ⟨dy, hdy⟩ : ∃ dy, dy = v[1]?.getD 0 := ⟨_, rfl⟩
  obtain ⟨ex, hex⟩ : ∃ dx, dx = v[2]?.getD 0 := ⟨_, rfl⟩
  obtain ⟨ey, hey⟩ : ∃ dy, dy = v[3]?.getD 0 := ⟨_, rfl⟩
  rw [← hdx] at v0 h1 ⊢
  rw [← hdy] at v1 h2 ⊢
  rw [← hex] at v2 h3 ⊢
  rw [← hey] at v3 h4 ⊢
  rw [Nat.add_zero] at v0
  clear hdx hdy hex hey e' hv hb
  obtain ⟨⟨L, er⟩, hE⟩ : ∃ E, onL M.l ⟨3, M.x + ex, M.y + ey, M.x + dx, M.y + dy⟩ = E := ⟨_, rfl⟩
  obtain ⟨m, hL⟩ : ∃ m, L.length = m := ⟨_, rfl⟩
  have hR : bowG M dx dy ex ey = takeG M (L, er) := by unfold bowG; rw [hE]
  have hle := onL_le M.l ⟨3, M.x + ex, M.y + ey, M.x + dx, M.y + dy⟩
  have hmy : er = 0 → mayB L = true := fun h0 => by have := on_may (l := M.l) (s := ⟨3, M.x + ex, M.y + ey, M.x + dx, M.y + dy⟩) (.inl rfl) (by rw [hE]; exact h0); rwa [hE] at this
  rw [hE] at hle
  simp only [hL] at hle
  rw [hR]
  have c2 := hM.c2
  have c3 := hM.c3
  have c4 := hM.c4
  have hx := hok.x
  have hy := hok.y
  have hl3 := (mayB_from hok.may).2
  have wr1 : IntKind.i64.wrap (M.x + dx) = M.x + dx := IntWalk.i64_in _ (by omega)
  have wr2 : IntKind.i64.wrap (M.y + dy) = M.y + dy := IntWalk.i64_in _ (by omega)
  have wr3 : IntKind.i64.wrap (M.x + ex) = M.x + ex := IntWalk.i64_in _ (by omega)
  have wr4 : IntKind.i64.wrap (M.y + ey) = M.y + ey := IntWalk.i64_in _ (by omega)
  have HM := Lib.hid hM
  have HOK := Lib.hid hok
  have HE := Lib.hid hE
  have HL := Lib.hid hL
  have HMY := Lib.hid hmy
  clear hM hok hE hL hmy hR
  go_enter Try.func72, Try.ntmps72
  go_wp2_with fail
  refine wp_region_cut 36 (by kernel_rfl) rfl (by simp only [List.take_succ_cons, List.take_zero]; rfl) (by simp only [List.drop_succ_cons, List.drop_zero]; rfl) (by kernel_rfl) (by kernel_rfl) (by kernel_rfl) (by kernel_rfl) (by kernel_rfl) (by kernel_rfl) (fun _ _ h => by obtain ⟨_, hz, _⟩ := h; cases hz) (fun _ => rfl) ?_
  try simp only [Act.put, List.setIfInBounds_toArray, List.set_cons_zero, List.set_cons_succ]
  repeat (go_big_quiet_step (fail))
  refine wpQuiet_nil ?_
  intro _ hw'
  obtain ⟨nq, rfl⟩ := hw'
  go_wp2_with fail
  refine (Bow_is (l := M.l) (by omega) (HM.out.hl.below (bdrewN (Below.refl _ _) _)) HE.out HL.out).mono ?_; rintro e w1 ⟨A1, c1, rfl, hown1, hb1⟩
  go_wp2_with fail
  refine (take_own HOK.out HM.out (bdrewN (Below.refl _ _) _) hb1 HL.out hle HMY.out hown1).mono ?_; rintro e w2 ⟨z, rfl, hg2, hr2⟩
  go_wp2_with fail
  refine NoPanic.normal ?_
  go_wp2_with fail
  go_ret
  exact ⟨z, rfl, hg2, hr2⟩
set_option maxHeartbeats 1000000 in
theorem shut_any (g : Nat) (P : List ByteArray) (M : GM) (v : Value) (w : World) (h : MS w g P M) :
    Calls Try.prog 76 #[.pointer (some ⟨g, 0, none⟩), v] w (GPost g P w (shutG M)) := by
  obtain ⟨hok, Ap, cp, Aw, cw, Al, cl, hM⟩ := h
  obtain ⟨⟨L, er⟩, hE⟩ : ∃ E, shutL M.l = E := ⟨_, rfl⟩
  obtain ⟨m, hL⟩ : ∃ m, L.length = m := ⟨_, rfl⟩
  have hR : shutG M = takeG M (L, er) := by unfold shutG; rw [hE]
  have hle := shutL_le M.l
  have hmy : er = 0 → mayB L = true := fun h0 => by have := shut_may (l := M.l) (by rw [hE]; exact h0); rwa [hE] at this
  rw [hE] at hle
  simp only [hL] at hle
  rw [hR]
  have c2 := hM.c2
  have hl3 := (mayB_from hok.may).2
  have HM := Lib.hid hM
  have HOK := Lib.hid hok
  have HE := Lib.hid hE
  have HL := Lib.hid hL
  have HMY := Lib.hid hmy
  clear hM hok hE hL hmy hR
  go_enter Try.func76, Try.ntmps76
  go_wp2_with fail
  refine (Shut_is (l := M.l) (by omega) HM.out.hl HE.out HL.out).mono ?_; rintro e w1 ⟨A1, c1, rfl, hown1, hb1⟩
  go_wp2_with fail
  refine (take_own HOK.out HM.out (Below.refl _ _) hb1 HL.out hle HMY.out hown1).mono ?_; rintro e w2 ⟨z, rfl, hg2, hr2⟩
  go_wp2_with fail
  go_ret
  exact ⟨z, rfl, hg2, hr2⟩
theorem end_any (g : Nat) (P : List ByteArray) (M : GM) (v : Value) (w : World) (h : MS w g P M) :
    Calls Try.prog 77 #[.pointer (some ⟨g, 0, none⟩), v] w (GPost g P w (.ok { M with over := true })) := by
  obtain ⟨hok, Ap, cp, Aw, cw, Al, cl, hM⟩ := h
  have c8 := hM.c8
  have n8 := hM.nf 8
  have hM2 := hM.setOver true
  have HOK := Lib.hid hok
  clear hok hM
  go_enter Try.func77, Try.ntmps77
  go_wp2_with fail
  go_ret
  exact ⟨0, rfl, set_own, rfl, ⟨HOK.out.w24, HOK.out.wv, HOK.out.x, HOK.out.y, HOK.out.may, HOK.out.wide, HOK.out.ops⟩, _, _, _, _, _, _, hM2⟩
set_option maxHeartbeats 1000000 in
theorem width_any (g : Nat) (P : List ByteArray) (M : GM) (v : List Int) (Av : Option Addr) (nv cv : Nat) (w : World) (h : MS w g P M) (hv : Sl w 1 Av nv (ints v)) (hn : nv = 1) :
    Calls Try.prog 69 #[.pointer (some ⟨g, 0, none⟩), .slice Av nv cv] w (GPost g P w (widthG M (v[0]?.getD 0))) := by
  subst hn
  have HMS := Lib.hid h
  obtain ⟨hok, Ap, cp, Aw, cw, Al, cl, hM⟩ := h
  obtain ⟨bv, ov, rfl, hbv, v0⟩ := hv.at (k := 0) (by omega)
  obtain ⟨a, ha⟩ : ∃ dx, dx = v[0]?.getD 0 := ⟨_, rfl⟩
  rw [← ha] at v0 ⊢
  rw [Nat.add_zero] at v0
  clear ha hv
  have c5 := hM.c5
  have c7 := hM.c7
  have n5 := hM.nf 5
  have hM2 := hM.setWide a
  have HM := Lib.hid hM2
  have HOK := Lib.hid hok
  clear hok hM hM2
  rcases Bool.eq_false_or_eq_true M.drawn with hd | hd
  · have hT : widthG M a = .bad 3 := by unfold widthG; rw [hd]; rfl
    rw [hT]
    rw [hd] at c7
    clear hT hd
    go_enter Try.func69, Try.ntmps69
    go_wp2_with fail
    go_ret
    exact ⟨3, rfl, ggbel (Below.refl _ _), rfl, by omega, M, HMS.out⟩
  · rw [hd] at c7
    by_cases h0 : a < 0
    · have hT : widthG M a = .bad 2 := by unfold widthG; rw [hd, if_pos (Or.inl h0)]; rfl
      rw [hT]
      clear hT hd
      go_enter Try.func69, Try.ntmps69
      go_wp2_with fail
      go_ret
      exact ⟨2, rfl, ggbel (Below.refl _ _), rfl, by omega, M, HMS.out⟩
    · have hd1 : decide (a < 0) = false := by simp; omega
      by_cases h1 : 8191 < a
      · have hT : widthG M a = .bad 2 := by unfold widthG; rw [hd, if_pos (Or.inr h1)]; rfl
        have hd2 : decide (8191 < a) = true := by simp; omega
        have hd3 : decide (a > 8191) = true := by simp; omega
        rw [hT]
        clear hT hd
        go_enter Try.func69, Try.ntmps69
        go_wp2_with fail
        go_ret
        exact ⟨2, rfl, ggbel (Below.refl _ _), rfl, by omega, M, HMS.out⟩
      · have hT : widthG M a = .ok { M with wide := a } := by unfold widthG; rw [if_neg (by rw [hd]; simp), if_neg (by omega)]
        have hd2 : decide (8191 < a) = false := by simp; omega
        have hd3 : decide (a > 8191) = false := by simp; omega
        rw [hT]
        clear hT hd
        go_enter Try.func69, Try.ntmps69
        go_wp2_with fail
        go_ret
        exact ⟨0, rfl, set_own, rfl, ⟨HOK.out.w24, HOK.out.wv, HOK.out.x, HOK.out.y, HOK.out.may, by simp only; omega, HOK.out.ops⟩, _, _, _, _, _, _, HM.out⟩
end Go.Proofs.Ytaphmonpdnbiiaa
