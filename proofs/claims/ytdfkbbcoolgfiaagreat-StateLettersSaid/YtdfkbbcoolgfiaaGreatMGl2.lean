/- Letters' programs: a piece that is called. -/
import Derived.Test.YtdfkbbcoolgfiaaGreatMGl1
import Derived.Test.YtdfkbbcoolgfiaaGreatGlyph6
import Derived.Test.YtdfkbbcoolgfiaaGreatSame
import Derived.Laws.BytesArg
namespace Go.Proofs.YtdfkbbcoolgfiaaGreat
open Go.RowKit Go.BigFrame

/-- What a piece's run answers. -/
def RPost (g : Nat) (P : List ByteArray) (w : World) (r : GR) (e : Ending) (w' : World) : Prop :=
  ∃ z, e = .returned (.int .i64 z) ∧ Below g w w' ∧ match r with
    | .bad er => z = er ∧ er ≠ 0
    | .ok M => z = 0 ∧ MS w' g P M
theorem own_pop {w : World} {base : Nat} {e : TypeId} {k n c : Nat} {xs : List Value} (h : w.ownsRow base e 1 (.slice (some ⟨k, 0, none⟩) (n + 1) c) (n + 1) xs) : w.ownsRow base e 1 (.slice (some ⟨k, 0, none⟩) n c) n (xs.take n) := by
  have hl := h.1
  rcases h.2 with ⟨hv, _⟩ | ⟨g, cap, cur, hv, hb, hg, hn, hm, hs, hx⟩
  · cases hv
  · simp only [Value.slice.injEq] at hv
    obtain ⟨hv, _, rfl⟩ := hv
    injection hv with hv; injection hv with hv; subst hv
    refine ⟨by rw [List.length_take]; omega, .inr ⟨k, c, cur, rfl, hb, hg, by omega, hm, hs, ?_⟩⟩
    rw [← hx, List.take_take]
    congr 1; omega
theorem own_some {w : World} {base : Nat} {e : TypeId} {s n c : Nat} {A : Option Addr} {xs : List Value} (h : w.ownsRow base e s (.slice A n c) n xs) (hn : 0 < n) : ∃ k, A = some ⟨k, 0, none⟩ ∧ base ≤ k ∧ k < w.heap.size := by
  rcases h.2 with ⟨_, h0⟩ | ⟨g, cap, cur, hv, hb, hg, _⟩
  · omega
  · simp only [Value.slice.injEq] at hv
    exact ⟨g, hv.1, hb, (Array.getElem?_eq_some_iff.1 hg).1⟩
theorem ints_take (v : List Int) : ints v.dropLast = (ints v).take (v.length - 1) := by
  unfold ints; rw [List.dropLast_eq_take, List.map_take]
theorem GOK.pop {M : GM} (h : GOK M) : GOK { M with wait := M.wait.dropLast } := ⟨by have := h.w24; simp only [List.length_dropLast]; omega, fun v hv => h.wv v ((List.dropLast_sublist _).subset hv), h.x, h.y, h.may, h.wide, h.ops⟩
theorem last_is {l : List Int} {n : Nat} (h : l.length = n + 1) : l.getLast? = some (l[n]?.getD 0) := by
  rw [List.getLast?_eq_getElem?, h, Nat.add_sub_cancel, List.getElem?_eq_getElem (by omega)]; rfl

set_option maxHeartbeats 2000000 in
theorem call_any (g : Nat) (P : List ByteArray) (deep : Nat) (deeper : Nat → GM → GR) (M : GM) (w : World) (hP : P.length ≤ 16) (hd : deep ≤ 4)
    (hmost : deep = 4 → ∀ k M, deeper k M = .bad 5)
    (hdeep : deep < 4 → ∀ (k : Nat) (hk : k < P.length) (M : GM) (w : World), MS w g P M → Calls Tryz.prog 165 #[.pointer (some ⟨g, 0, none⟩), .string P[k], .int .i64 ((deep : Int) + 1)] w (RPost g P w (deeper k M)))
    (h : MS w g P M) :
    Calls Tryz.prog 179 #[.pointer (some ⟨g, 0, none⟩), .int .i64 (deep : Int)] w (RPost g P w (callG P.length deeper M)) := by
  obtain ⟨hok, Ap, cp, Aw, cw, Al, cl, hM⟩ := h
  have c1 := hM.c1
  have nf1 := hM.nf 1
  have hlt := hM.lt
  have HM := Lib.hid hM
  have HOK := Lib.hid hok
  have HDP := Lib.hid hdeep
  have HMO := Lib.hid hmost
  obtain ⟨n, hn⟩ : ∃ n, M.wait.length = n := ⟨_, rfl⟩
  cases n with
  | zero =>
    have HR := Lib.hid (show callG P.length deeper M = .bad 7 by unfold callG; rw [List.length_eq_zero_iff.1 hn]; rfl)
    rw [hn] at c1
    clear hM hok hdeep hmost hn
    go_enter Tryz.func179, Tryz.ntmps179
    go_wp2_with fail
    go_ret
    exact ⟨7, rfl, Below.refl _ _, by rw [HR.out]; exact ⟨rfl, by omega⟩⟩
  | succ n =>
    have hn24 := hok.w24
    have hw0 := hM.hw
    rw [hn] at c1 hn24 hw0
    obtain ⟨kb, rfl, hkg, hks⟩ := own_some hw0 (by omega)
    obtain ⟨b, off, hA, _, k0⟩ := (own_sl hw0).at (k := n) (by omega)
    obtain ⟨rfl, rfl⟩ := Sl.inj hA
    rw [Nat.zero_add] at k0
    have hq1 := hok.wv
    obtain ⟨q, hq⟩ : ∃ q, q = M.wait[n]?.getD 0 := ⟨_, rfl⟩
    have hqb : -33000 ≤ q ∧ q ≤ 33000 := by
      have := VB.of hok.wv n
      rw [hq]; exact this
    rw [← hq] at k0
    have hlast : M.wait.getLast? = some q := by rw [hq]; exact last_is hn
    have hC : callG P.length deeper M = if q < 0 ∨ (P.length : Int) ≤ q then .bad 3 else deeper q.toNat { M with wait := M.wait.dropLast } := by unfold callG; rw [hlast]
    have HC := Lib.hid hC
    have hpop := own_pop hw0
    have hld : M.wait.dropLast.length = n := by rw [List.length_dropLast]; omega
    have hM2 := fun (W : World) (hb : Below w.heap.size w W) => (hM.below hb).setWait (v := M.wait.dropLast) (A := some ⟨kb, 0, none⟩) (c := cw) (n := n) (by rw [ints_take, hn]; exact own_below hpop hb) hld (fun h0 b off e k hk => (hM.lg h0 b off e).2 k (by rw [hn]; exact hk))
    have hp0 := hM.hp
    have c0 := hM.c0
    have HM2 := Lib.hid hM2
    have hne : g ≠ kb := by omega
    have hcap := own_cap hw0
    have B2 : ∀ (W : World) (u : Value), Below w.heap.size w W → Below g w (W.setCell ⟨g, 1, none⟩ u) := fun W u hb => (hb.mono (by omega)).setCell (p := ⟨g, 1, none⟩) (Nat.le_refl g) u
    have HB2 := Lib.hid B2
    have hz1 : (((n : Int) + 1) == 0) = false := by simp; omega
    clear hM hok hdeep hmost hn hw0 hq1 hq hlast hC hpop hld hM2 hA B2
    by_cases h0 : q < 0
    · have HR := Lib.hid (show callG P.length deeper M = .bad 3 by rw [HC.out, if_pos (.inl h0)])
      have hd1 : decide (q < 0) = true := by simp [h0]
      go_enter Tryz.func179, Tryz.ntmps179
      go_wp2_with fail
      go_quiet (fail)
      go_wp2_with fail
      go_region
      all_goals
        go_wp2_with fail
        go_ret
        exact ⟨3, rfl, HB2.out _ _ (bdrew (bdrewN (Below.refl _ _) _)), by rw [HR.out]; exact ⟨rfl, by omega⟩⟩
    · have hd1 : decide (q < 0) = false := by simp; omega
      by_cases h1 : (P.length : Int) ≤ q
      · have HR := Lib.hid (show callG P.length deeper M = .bad 3 by rw [HC.out, if_pos (.inr h1)])
        have hd2 : decide (q ≥ (P.length : Int)) = true := by simp; omega
        have hd3 : decide ((P.length : Int) ≤ q) = true := by simp; omega
        go_enter Tryz.func179, Tryz.ntmps179
        go_wp2_with fail
        go_quiet (fail)
        go_wp2_with fail
        go_region
        all_goals
          go_wp2_with fail
          go_ret
          exact ⟨3, rfl, HB2.out _ _ (bdrew (bdrewN (Below.refl _ _) _)), by rw [HR.out]; exact ⟨rfl, by omega⟩⟩
      · have hd2 : decide (q ≥ (P.length : Int)) = false := by simp; omega
        have hd3 : decide ((P.length : Int) ≤ q) = false := by simp; omega
        have hC2 : callG P.length deeper M = deeper q.toNat { M with wait := M.wait.dropLast } := by rw [HC.out, if_neg (by omega)]
        by_cases h4 : deep = 4
        · have HR := Lib.hid (show callG P.length deeper M = .bad 5 by rw [hC2, HMO.out h4])
          subst h4
          clear hC2
          go_enter Tryz.func179, Tryz.ntmps179
          go_wp2_with fail
          go_quiet (fail)
          go_wp2_with fail
          go_region
          all_goals
            go_wp2_with fail
            go_ret
            exact ⟨5, rfl, HB2.out _ _ (bdrew (bdrewN (Below.refl _ _) _)), by rw [HR.out]; exact ⟨rfl, by omega⟩⟩
        · have hd4 : ((deep : Int) == 4) = false := by simp; omega
          have hd5 : (deep == 4) = false := by simp; omega
          obtain ⟨qn, rfl⟩ : ∃ qn : Nat, q = (qn : Int) := ⟨q.toNat, by omega⟩
          have hqn : qn < P.length := by omega
          obtain ⟨bp, op, rfl, hbp, hcp⟩ := hp0 (by omega)
          have p0 := hcp qn (.string P[qn]) (by unfold strs; rw [List.getElem?_map, List.getElem?_eq_getElem hqn]; rfl)
          have hnbp : g ≠ bp := by omega
          have HC2 := Lib.hid hC2
          obtain ⟨str, hstr⟩ : ∃ str, str = P[qn] := ⟨_, rfl⟩
          rw [← hstr] at p0
          have hrun : ∀ W, MS W g P { M with wait := M.wait.dropLast } → Calls Tryz.prog 165 #[.pointer (some ⟨g, 0, none⟩), .string str, .int .i64 ((deep : Int) + 1)] W (RPost g P W (deeper qn { M with wait := M.wait.dropLast })) := by
            intro W hW; rw [hstr]; exact HDP.out (by omega) qn hqn _ W hW
          have HRUN := Lib.hid hrun
          clear hC2 hcp hp0 hstr hrun
          go_enter Tryz.func179, Tryz.ntmps179
          go_wp2_with fail
          go_quiet (fail)
          go_wp2_with fail
          go_region
          all_goals
            go_wp2_with fail
            refine (HRUN.out _ ⟨HOK.out.pop, _, _, _, _, _, _, HM2.out _ (bdrewN (Below.refl _ _) _)⟩).mono ?_; rintro e w2 ⟨z, rfl, hb2, hr2⟩
            go_wp2_with fail
            go_ret
            exact ⟨z, rfl, (HB2.out _ _ (bdrewN (Below.refl _ _) _)).trans hb2, by rw [HC2.out]; exact hr2⟩
end Go.Proofs.YtdfkbbcoolgfiaaGreat

namespace Go.Proofs.YtdfkbbcoolgfiaaGreat
open Go.RowKit Go.BigFrame

theorem ints_snoc (v : List Int) (z : Int) : ints (v ++ [z]) = ints v ++ [.int .i64 z] := by simp [ints]
theorem MAt.push {w w' : World} {g : Nat} {P : List ByteArray} {M : GM} {Ap Aw Al A : Option Addr} {cp cw cl c n : Nat} {v : Int} (h : MAt w g P M Ap cp Aw cw Al cl) (hn : M.wait.length = n) (hg : w.grownBy w' (Value.slice Aw n cw).ownBlock)
    (ho : w'.ownsRow (g + 1) 3 1 (.slice A (n + 1) c) (n + 1) (ints M.wait ++ [.int .i64 v])) (hat : (Value.slice A (n + 1) c).ownBlock = (Value.slice Aw n cw).ownBlock ∨ (Value.slice A (n + 1) c).ownBlock = some w.heap.size) :
    MAt (w'.setCell ⟨g, 1, none⟩ (.slice A (n + 1) c)) g P { M with wait := M.wait ++ [v] } Ap cp A c Al cl := by
  subst hn
  have hlt := h.lt
  have hgw : (Value.slice Aw M.wait.length cw).ownBlock ≠ some g := fun e => by have := (h.hw.lt g e).1; omega
  have hblk : ∀ b, b < w.heap.size → (∀ k, (Value.slice Aw M.wait.length cw).ownBlock = some k → b ≠ k) → w'.heap[b]? = w.heap[b]? := fun b hb hne => hg.block b hb fun e => hne b e.symm rfl
  have hbg := hblk g hlt (fun k hk e => hgw (e ▸ hk))
  have cg : ∀ i, w'.cell? ⟨g, i, none⟩ = w.cell? ⟨g, i, none⟩ := fun i => World.cell?_of_block (a := ⟨g, i, none⟩) hbg
  have fg : ∀ i, w'.frozen? ⟨g, i, none⟩ = false := fun i => (World.frozen?_of_block (a := ⟨g, i, none⟩) hbg).trans (h.nf i)
  have hg2 : w'.grownBy (w'.setCell ⟨g, 1, none⟩ (.slice A (M.wait.length + 1) c)) (some g) := set_own
  have hsz := hg.size
  refine ⟨Nat.lt_of_lt_of_le (Nat.lt_of_lt_of_le hlt hsz) hg2.size, fz_set fg _ _, cs_other (by omega) ((cg 0).trans h.c0), ?_, cs_other (by omega) ((cg 2).trans h.c2), cs_other (by omega) ((cg 3).trans h.c3), cs_other (by omega) ((cg 4).trans h.c4), cs_other (by omega) ((cg 5).trans h.c5),
    cs_other (by omega) ((cg 6).trans h.c6), cs_other (by omega) ((cg 7).trans h.c7), cs_other (by omega) ((cg 8).trans h.c8), ?_, ?_, ?_, h.lc, fun h0 b off e => ⟨(h.lg h0 b off e).1, ?_⟩⟩
  · rw [List.length_append]; exact cs_same ((cg 1).trans h.c1)
  · intro hn
    obtain ⟨b, off, e, hb, hc⟩ := h.hp hn
    refine ⟨b, off, e, hb, fun j u hu => (cell_g hg2 (by omega) (by omega)).trans (Eq.trans ?_ (hc j u hu))⟩
    exact World.cell?_of_block (a := ⟨b, off + j, none⟩) (hblk b (by omega) fun k hk => by have := (h.hw.lt k hk).1; omega)
  · rw [List.length_append, ints_snoc]; exact own_g ho hg2 (Nat.lt_succ_self g)
  · refine sl_g hg2 ?_ fun h0 b off e => by have := (h.lg h0 b off e).1; omega
    refine ⟨h.hl.1, fun hn => ?_⟩
    obtain ⟨b, off, e, hb, hc⟩ := h.hl.2 hn
    exact ⟨b, off, e, Nat.lt_of_lt_of_le hb hsz, fun j u hu => (World.cell?_of_block (a := ⟨b, off + j, none⟩) (hblk b hb (h.lg hn b off e).2)).trans (hc j u hu)⟩
  · intro k hk
    simp only [List.length_append, List.length_singleton] at hk
    rcases hat with e2 | e2
    · rw [e2] at hk; exact (h.lg h0 b off e).2 k hk
    · rw [e2] at hk
      injection hk with hk
      obtain ⟨b', off', e', hb', _⟩ := h.hl.2 h0
      rw [e] at e'
      have := (Sl.inj e').1
      omega
theorem numG_bd {s : List Nat} (hs : ∀ b ∈ s, b < 256) {v : Int} {n : Nat} (h : numG s = some (v, n)) : -33000 ≤ v ∧ v ≤ 33000 := by
  match s with
  | [] => cases h
  | b :: s =>
    have hb := hs b (by simp)
    simp only [numG] at h
    by_cases h1 : b ≤ 246
    · rw [if_pos h1] at h
      simp only [Option.some.injEq, Prod.mk.injEq] at h; omega
    · rw [if_neg h1] at h
      by_cases h2 : b = 255
      · rw [if_pos h2] at h
        match s with
        | [] => cases h
        | [_] => cases h
        | c :: d :: _ =>
          have hc := hs c (by simp)
          have hd := hs d (by simp)
          simp only [Option.some.injEq, Prod.mk.injEq] at h
          obtain ⟨h, _⟩ := h
          unfold i16 at h
          split at h <;> omega
      · rw [if_neg h2] at h
        match s with
        | [] => cases h
        | c :: _ =>
          have hc := hs c (by simp)
          simp only [Option.some.injEq, Prod.mk.injEq] at h
          obtain ⟨h, _⟩ := h
          split at h <;> omega
theorem GOK.push {M : GM} (h : GOK M) (h24 : M.wait.length ≠ 24) {v : Int} (hv : -33000 ≤ v ∧ v ≤ 33000) : GOK { M with wait := M.wait ++ [v] } :=
  ⟨by have := h.w24; simp only [List.length_append, List.length_singleton]; omega, fun z hz => by
    rcases List.mem_append.1 hz with hz | hz
    · exact h.wv z hz
    · rw [List.mem_singleton] at hz; subst hz; exact hv, h.x, h.y, h.may, h.wide, h.ops⟩
end Go.Proofs.YtdfkbbcoolgfiaaGreat

namespace Go.Proofs.YtdfkbbcoolgfiaaGreat
open Go.RowKit Go.BigFrame

theorem MAt.gblk {w w' : World} {g : Nat} {P : List ByteArray} {M : GM} {Ap Aw Al : Option Addr} {cp cw cl n : Nat} (h : MAt w g P M Ap cp Aw cw Al cl) (hn : M.wait.length = n) (hg : w.grownBy w' (Value.slice Aw n cw).ownBlock) :
    (∀ i, w'.cell? ⟨g, i, none⟩ = w.cell? ⟨g, i, none⟩) ∧ ∀ i, w'.frozen? ⟨g, i, none⟩ = false := by
  subst hn
  have hbg := hg.block g h.lt fun e => by have := (h.hw.lt g e.symm).1; omega
  exact ⟨fun i => World.cell?_of_block (a := ⟨g, i, none⟩) hbg, fun i => (World.frozen?_of_block (a := ⟨g, i, none⟩) hbg).trans (h.nf i)⟩
theorem MAt.gbelow {w0 w w' : World} {g : Nat} {P : List ByteArray} {M : GM} {Ap Aw Al : Option Addr} {cp cw cl n : Nat} (h : MAt w g P M Ap cp Aw cw Al cl) (hn : M.wait.length = n) (hg : w.grownBy w' (Value.slice Aw n cw).ownBlock) (hb : Below g w0 w) (u : Value) :
    Below g w0 (w'.setCell ⟨g, 1, none⟩ u) := by
  subst hn
  exact (hb.grown hg (Nat.le_of_lt h.lt) (fun k hk => Nat.le_of_succ_le (h.hw.lt k hk).1)).setCell (p := ⟨g, 1, none⟩) (Nat.le_refl g) u
def strOf : Value → ByteArray | .string s => s | _ => .empty
theorem ciT : SlT Tryz.prog 28 3 1 8 := slT_of Tryz.underlying28 (by kernel_rfl) (by omega) (by omega)
theorem extract_size' (s : ByteArray) (k : Nat) : (s.extract k s.size).size = s.size - k := by
  rw [← bl_len, bl_cut, List.length_drop, bl_len]
theorem bl_nil {s : ByteArray} (h : s.size = 0) : bl s = [] := List.eq_nil_of_length_eq_zero (by rw [bl_len]; exact h)

theorem draw_r (c : Nat) (g : Nat) (P : List ByteArray) (M : GM) (w : World) (hc : c < 32) (h : MS w g P M) :
    Calls Tryz.prog 180 #[.pointer (some ⟨g, 0, none⟩), .int .u8 (c : Int)] w (RPost g P w (drawG c M)) := by
  have hlt : g < w.heap.size := by obtain ⟨_, _, _, _, _, _, _, hM⟩ := h; exact hM.lt
  refine (draw_any c g P M w hc h).mono ?_; rintro e w' ⟨z, rfl, hg, hr⟩
  refine ⟨z, rfl, g2b' hg hlt, ?_⟩
  cases hd : drawG c M with
  | bad er => rw [hd] at hr; exact ⟨hr.1, hr.2.1⟩
  | ok M2 => rw [hd] at hr; exact hr
set_option maxRecDepth 100000 in
set_option maxHeartbeats 4000000 in
theorem run_level (g : Nat) (P : List ByteArray) (deep : Nat) (deeper : Nat → GM → GR) (M : GM) (w : World) (hP : P.length ≤ 16) (hd : deep ≤ 4)
    (hmost : deep = 4 → ∀ k M, deeper k M = .bad 5)
    (hdeep : deep < 4 → ∀ (k : Nat) (hk : k < P.length) (M : GM) (w : World), MS w g P M → Calls Tryz.prog 165 #[.pointer (some ⟨g, 0, none⟩), .string P[k], .int .i64 ((deep : Int) + 1)] w (RPost g P w (deeper k M)))
    (s : ByteArray) (hsz : s.size ≤ 1000000) (h : MS w g P M) :
    Calls Tryz.prog 165 #[.pointer (some ⟨g, 0, none⟩), .string s, .int .i64 (deep : Int)] w (RPost g P w (runS P.length deeper (deep == 0) (bl s) M)) := by
  have HC := Lib.hid (fun (M : GM) (w : World) (h : MS w g P M) => call_any g P deep deeper M w hP hd hmost hdeep h)
  clear hmost hdeep
  obtain ⟨R, hR⟩ : ∃ R, R = runS P.length deeper (deep == 0) (bl s) M := ⟨_, rfl⟩
  rw [← hR]
  go_enter Tryz.func165, Tryz.ntmps165
  go_wp2
  go_step3
  go_wp2
  go_step3
  go_wp2
  go_loopw [1] (fun s1 wr => ∃ (t : ByteArray) (M' : GM), s1 = .string t ∧ t.size ≤ 1000000 ∧ MS wr g P M' ∧ Hid (Below g w wr) ∧ Hid (R = runS P.length deeper (deep == 0) (bl t) M')) (fun s1 _ => (strOf s1).size)
  case atStart => exact ⟨s, M, rfl, hsz, h, Lib.hid (Below.refl _ _), Lib.hid hR⟩
  case round =>
    obtain ⟨t, M', rfl, ht, hMS, HB, he⟩ := hrel
    by_cases h0 : t.size = 0
    · have HR := Lib.hid (show R = .bad 4 by rw [he.out, bl_nil h0, runS.eq_def])
      have hz1 : decide ((t.size : Int) > 0) = false := by rw [h0]; rfl
      have hz2 : decide (0 < t.size) = false := by rw [h0]; rfl
      have hz3 : decide (0 < (t.size : Int)) = false := by rw [h0]; rfl
      clear he hMS h
      go_wp2_with fail
      try rw [Exit.noGoto_ret]
      go_ret
      exact ⟨4, rfl, HB.out, by rw [HR.out]; exact ⟨rfl, by omega⟩⟩
    · have hz1 : decide ((t.size : Int) > 0) = true := by simp; omega
      have hz2 : decide (0 < t.size) = true := by simp; omega
      have hz3 : decide (0 < (t.size : Int)) = true := by simp; omega
      have i0 := fun W => run_byt (t := 9) (s := t) (k := 0) (i := 0) rfl Tryz.underlying9 (by omega) W
      have hb := byt_lt t 0
      obtain ⟨b, hbb⟩ : ∃ b, b = byt t 0 := ⟨_, rfl⟩
      have hbl : bl t = b :: (bl t).drop 1 := by rw [hbb]; exact bl_one (by omega)
      rw [← hbb] at i0 hb
      clear hbb h
      have HMS := Lib.hid hMS
      obtain ⟨hok, Ap, cp, Aw, cw, Al, cl, hM⟩ := hMS
      have HOK := Lib.hid hok
      have HM := Lib.hid hM
      by_cases h32 : 32 ≤ b
      · have hz4 : decide ((b : Int) ≥ 32) = true := by simp; omega
        have hz5 : decide (32 ≤ (b : Int)) = true := by simp; omega
        have hz6 : decide (32 ≤ b) = true := by simp; omega
        have hrs := runS_num (np := P.length) (deeper := deeper) (top := deep == 0) (b := b) (s := (bl t).drop 1) M' h32
        rw [← hbl] at hrs
        have hnb := fun v n => numG_bd (s := bl t) (v := v) (n := n) (bl_lt t)
        have hnl := fun v n => numG_len (s := bl t) (v := v) (n := n)
        rw [bl_len] at hnl
        have HN := Lib.hid (fun W => number_any t W (by omega) ht)
        cases hn : numG (bl t) with
        | none =>
          have HR := Lib.hid (show R = .bad 4 by rw [he.out, hrs, hn])
          have HNN := Lib.hid hn
          have HB' := Lib.hid (fun (W : World) (hb : Below wr.heap.size wr W) => HB.out.trans (hb.mono (Nat.le_of_lt hM.lt)))
          clear he hrs hnb hnl hn hok hM hbl HB
          go_wp2_with fail
          refine (HN.out _).mono ?_; rintro e w1 ⟨rfl, hb1⟩
          rw [HNN.out]
          simp only [numR]
          have HB := Lib.hid (HB'.out _ hb1)
          go_wp2_with fail
          try rw [Exit.noGoto_ret]
          go_ret
          exact ⟨4, rfl, HB.out, by rw [HR.out]; exact ⟨rfl, by omega⟩⟩
        | some vn =>
          obtain ⟨v, n⟩ := vn
          have hvb := hnb v n hn
          obtain ⟨hn1, hn2⟩ := hnl v n hn
          have HNN := Lib.hid hn
          rw [hn] at hrs
          simp only at hrs
          obtain ⟨m, hm⟩ : ∃ m, M'.wait.length = m := ⟨_, rfl⟩
          have hm24 := hok.w24
          rw [hm] at hm24
          have HB' := Lib.hid (fun (W : World) (hb : Below wr.heap.size wr W) => HB.out.trans (hb.mono (Nat.le_of_lt hM.lt)))
          have HM1 := Lib.hid (fun (W : World) (hb : Below wr.heap.size wr W) => hM.below hb)
          by_cases h24 : m = 24
          · have HR := Lib.hid (show R = .bad 8 by rw [he.out, hrs]; unfold pushG; rw [if_pos (hm.trans h24)])
            have hz7 : ((m : Int) == 24) = true := by simp [h24]
            clear he hrs hnb hnl hn hok hM hbl HB
            go_wp2_with fail
            refine (HN.out _).mono ?_; rintro e w1 ⟨rfl, hb1⟩
            rw [HNN.out]
            simp only [numR]
            have HB := Lib.hid (HB'.out _ hb1)
            have hM1 := HM1.out _ hb1
            have c1 := hM1.c1
            rw [hm] at c1
            clear hM1 hb1
            go_wp2_with fail
            try rw [Exit.noGoto_ret]
            go_ret
            exact ⟨8, rfl, HB.out, by rw [HR.out]; exact ⟨rfl, by omega⟩⟩
          · have HR := Lib.hid (show R = runS P.length deeper (deep == 0) (bl (t.extract n t.size)) { M' with wait := M'.wait ++ [v] } by rw [he.out, hrs, bl_cut]; unfold pushG; rw [if_neg (by omega)])
            have hz7 : ((m : Int) == 24) = false := by simp; omega
            have HOK2 := Lib.hid (hok.push (by omega) hvb)
            have hes := extract_size' t n
            clear he hrs hnb hnl hn hok hM hbl HB
            go_wp2_with fail
            refine (HN.out _).mono ?_; rintro e w1 ⟨rfl, hb1⟩
            rw [HNN.out]
            simp only [numR]
            have hBB := HB'.out _ hb1
            have hM1 := HM1.out _ hb1
            have c1 := hM1.c1
            have nf1 := hM1.nf 1
            have hlt1 := hM1.lt
            have hown1 := hM1.hw
            rw [hm] at c1 hown1
            clear hb1
            go_wp2_with (at_builtin; refine wpList_app rfl _ _ 28 rfl (g + 1) ciT rfl (own_below hown1 (bal (Below.refl _ _) _)) (ints [v]) rfl (sl_new _ rfl rfl) (oneCell_ints [v]) (by omega) (Nat.le_trans hlt1 (bal (Below.refl _ _) _).size) ?_; intro A2 c2 w2 hown2 hg2 hat2; have hMa := hM1.below (bal (Below.refl _ _) (.cells #[.int .i64 v] 3)); obtain ⟨cg, fg⟩ := hMa.gblk hm hg2; have d1 := (cg 1).trans hMa.c1; have f1 := fg 1; rw [hm] at d1; have HMA := Lib.hid hMa; clear hMa cg fg)
            go_roundw
            case rel => exact ⟨_, _, rfl, by rw [hes]; omega, ⟨HOK2.out, _, _, _, _, _, _, HMA.out.push hm hg2 hown2 hat2⟩, Lib.hid (HMA.out.gbelow hm hg2 (hBB.alloc (Nat.le_of_lt hlt1) _) _), HR⟩
            case measure => simp only [strOf]; rw [hes]; omega
      · have hz4 : decide ((b : Int) ≥ 32) = false := by simp; omega
        have hz5 : decide (32 ≤ (b : Int)) = false := by simp; omega
        have hz6 : decide (32 ≤ b) = false := by simp; omega
        have hrs := runS_op (np := P.length) (deeper := deeper) (top := deep == 0) (b := b) (s := (bl t).drop 1) M' h32
        rw [← hbl, ← bl_cut t 1] at hrs
        have hes := extract_size' t 1
        have c6 := hM.c6
        have nf6 := hM.nf 6
        have hlt := hM.lt
        obtain ⟨k, hk⟩ : ∃ k, k = M'.ops := ⟨_, rfl⟩
        have hko := hok.ops
        rw [← hk] at c6 hko hrs
        have HBS := Lib.hid (HB.out.setCell (p := ⟨g, 6, none⟩) (Nat.le_refl g) (.int .i64 ((k : Int) + 1)))
        by_cases hov : k = 1000
        · have HR := Lib.hid (show R = .bad 5 by rw [he.out, hrs, if_pos (by omega)])
          subst hov
          clear he hrs hok hM hbl HB HC HMS HOK HM hk
          go_wp2_with fail
          try rw [Exit.noGoto_ret]
          go_ret
          exact ⟨5, rfl, HBS.out, by rw [HR.out]; exact ⟨rfl, by omega⟩⟩
        · have hM1 := hM.setOps (x := (k : Int) + 1) (k := k + 1) (by omega)
          have hMS1 : MS (wr.setCell ⟨g, 6, none⟩ (.int .i64 ((k : Int) + 1))) g P { M' with ops := k + 1 } := ⟨⟨hok.w24, hok.wv, hok.x, hok.y, hok.may, hok.wide, by simp only; omega⟩, _, _, _, _, _, _, hM1⟩
          have HMS1 := Lib.hid hMS1
          rw [if_neg (by omega)] at hrs
          have hz7 : decide ((k : Int) + 1 > 1000) = false := by simp; omega
          have hz8 : decide (1000 < (k : Int) + 1) = false := by simp; omega
          clear hok hM hbl HB HMS HOK HM hM1 hMS1 hk
          by_cases h8 : b = 8
          · subst h8
            rw [if_pos rfl] at hrs
            have HE := Lib.hid (he.out.trans hrs)
            clear he hrs
            go_wp2_with fail
            refine (HC.out _ _ HMS1.out).mono ?_; rintro e w2 ⟨z, rfl, hb2, hr2⟩
            have HB3 := Lib.hid (HBS.out.trans hb2)
            cases hr : callG P.length deeper { M' with ops := k + 1 } with
            | bad er =>
              rw [hr] at hr2
              obtain ⟨rfl, hz⟩ := hr2
              have hzz : (z != 0) = true := by simp [hz]
              have HR := Lib.hid (show R = .bad z by rw [HE.out, hr]; rfl)
              clear hr hb2
              go_wp2_with fail
              try rw [Exit.noGoto_ret]
              go_ret
              exact ⟨z, rfl, HB3.out, by rw [HR.out]; exact ⟨rfl, hz⟩⟩
            | ok M2 =>
              rw [hr] at hr2
              obtain ⟨rfl, hM2⟩ := hr2
              have HM2 := Lib.hid hM2
              obtain ⟨_, _, _, _, _, _, _, hMM⟩ := hM2
              have c8 := hMM.c8
              have hlt2 := hMM.lt
              rcases Bool.eq_false_or_eq_true M2.over with ho | ho
              · rw [ho] at c8
                have HR := Lib.hid (show R = .ok M2 by rw [HE.out, hr]; unfold thenG; simp only; rw [if_pos ho])
                clear hr hb2 hMM ho
                go_wp2_with fail
                try rw [Exit.noGoto_ret]
                go_ret
                exact ⟨0, rfl, HB3.out, by rw [HR.out]; exact ⟨rfl, HM2.out⟩⟩
              · rw [ho] at c8
                have HR := Lib.hid (show R = runS P.length deeper (deep == 0) (bl (t.extract 1 t.size)) M2 by rw [HE.out, hr]; unfold thenG; simp only; rw [if_neg (by rw [ho]; simp)])
                clear hr hb2 hMM ho
                go_wp2_with fail
                go_roundw
                case rel => exact ⟨_, _, rfl, by rw [hes]; omega, HM2.out, HB3, HR⟩
                case measure => simp only [strOf]; rw [hes]; omega
          · rw [if_neg h8] at hrs
            have hz9 : ((b : Int) == 8) = false := by simp; omega
            by_cases h9 : b = 9
            · subst h9
              rw [if_pos rfl] at hrs
              by_cases hd0 : deep = 0
              · have HR := Lib.hid (show R = .bad 3 by rw [he.out, hrs, hd0]; rfl)
                subst hd0
                clear he hrs HC
                go_wp2_with fail
                try rw [Exit.noGoto_ret]
                go_ret
                exact ⟨3, rfl, HBS.out, by rw [HR.out]; exact ⟨rfl, by omega⟩⟩
              · have hdb : (deep == 0) = false := by simp; omega
                have hdc : ((deep : Int) == 0) = false := by simp; omega
                have HR := Lib.hid (show R = .ok { M' with ops := k + 1 } by rw [he.out, hrs, hdb]; rfl)
                clear he hrs HC
                go_wp2_with fail
                try rw [Exit.noGoto_ret]
                go_ret
                exact ⟨0, rfl, HBS.out, by rw [HR.out]; exact ⟨rfl, HMS1.out⟩⟩
            · rw [if_neg h9] at hrs
              have hz10 : ((b : Int) == 9) = false := by simp; omega
              have HE := Lib.hid (he.out.trans hrs)
              have HDW := Lib.hid (fun W h => draw_r b g P { M' with ops := k + 1 } W (by omega) h)
              clear he hrs HC
              go_wp2_with fail
              refine (HDW.out _ HMS1.out).mono ?_; rintro e w2 ⟨z, rfl, hb2, hr2⟩
              have HB3 := Lib.hid (HBS.out.trans hb2)
              cases hr : drawG b { M' with ops := k + 1 } with
              | bad er =>
                rw [hr] at hr2
                obtain ⟨rfl, hz⟩ := hr2
                have hzz : (z != 0) = true := by simp [hz]
                have HR := Lib.hid (show R = .bad z by rw [HE.out, hr]; rfl)
                clear hr hb2
                go_wp2_with fail
                try rw [Exit.noGoto_ret]
                go_ret
                exact ⟨z, rfl, HB3.out, by rw [HR.out]; exact ⟨rfl, hz⟩⟩
              | ok M2 =>
                rw [hr] at hr2
                obtain ⟨rfl, hM2⟩ := hr2
                have HM2 := Lib.hid hM2
                obtain ⟨_, _, _, _, _, _, _, hMM⟩ := hM2
                have c8 := hMM.c8
                have hlt2 := hMM.lt
                rcases Bool.eq_false_or_eq_true M2.over with ho | ho
                · rw [ho] at c8
                  have HR := Lib.hid (show R = .ok M2 by rw [HE.out, hr]; unfold thenG; simp only; rw [if_pos ho])
                  clear hr hb2 hMM ho
                  go_wp2_with fail
                  try rw [Exit.noGoto_ret]
                  go_ret
                  exact ⟨0, rfl, HB3.out, by rw [HR.out]; exact ⟨rfl, HM2.out⟩⟩
                · rw [ho] at c8
                  have HR := Lib.hid (show R = runS P.length deeper (deep == 0) (bl (t.extract 1 t.size)) M2 by rw [HE.out, hr]; unfold thenG; simp only; rw [if_neg (by rw [ho]; simp)])
                  clear hr hb2 hMM ho
                  go_wp2_with fail
                  go_roundw
                  case rel => exact ⟨_, _, rfl, by rw [hes]; omega, HM2.out, HB3, HR⟩
                  case measure => simp only [strOf]; rw [hes]; omega
end Go.Proofs.YtdfkbbcoolgfiaaGreat

namespace Go.Proofs.YtdfkbbcoolgfiaaGreat
open Go.RowKit Go.BigFrame

theorem run_any (g : Nat) (P : List ByteArray) (hP : P.length ≤ 16) (hPs : ∀ p ∈ P, p.size ≤ 1000000) : ∀ (d deep : Nat), d + deep = 4 → ∀ (s : ByteArray) (M : GM) (w : World), s.size ≤ 1000000 → MS w g P M →
    Calls Tryz.prog 165 #[.pointer (some ⟨g, 0, none⟩), .string s, .int .i64 (deep : Int)] w (RPost g P w (runD (P.map bl) d (deep == 0) (bl s) M))
  | 0, deep, hd, s, M, w, hs, h => by
    have := run_level g P deep (fun _ _ => .bad 5) M w hP (by omega) (fun _ _ _ => rfl) (fun hlt => by omega) s hs h
    simpa [runD] using this
  | d + 1, deep, hd, s, M, w, hs, h => by
    have := run_level g P deep (fun k M => runD (P.map bl) d false ((P.map bl)[k]?.getD []) M) M w hP (by omega) (fun h4 => by omega) (fun hlt k hk M w hM => by
      have h1 := run_any g P hP hPs d (deep + 1) (by omega) P[k] M w (hPs _ (List.getElem_mem hk)) hM
      have e1 : (deep + 1 == 0) = false := by simp
      have e2 : (P.map bl)[k]?.getD [] = bl P[k] := by rw [List.getElem?_map, List.getElem?_eq_getElem hk]; rfl
      rw [e1] at h1
      rw [e2]
      exact h1) s hs h
    simpa [runD] using this

theorem stT : SlT Tryz.prog 52 9 1 16 := slT_of Tryz.underlying52 (by kernel_rfl) (by omega) (by omega)

theorem emp_yes {s : ByteArray} (h : s.size = 0) : s.toList.isEmpty = true := by
  rw [ByteArray.toList_eq]
  have : s.data.toList.length = 0 := by rw [Array.length_toList]; exact h
  rw [List.eq_nil_of_length_eq_zero this]; rfl
theorem emp_no {s : ByteArray} (h : s.size ≠ 0) : s.toList.isEmpty = false := by
  rw [ByteArray.toList_eq]
  have : s.data.toList.length ≠ 0 := by rw [Array.length_toList]; exact h
  cases hh : s.data.toList with
  | nil => rw [hh] at this; exact absurd rfl this
  | cons a l => rfl
theorem bl_mid (s : ByteArray) (a b : Nat) : bl (s.extract a b) = ((bl s).drop a).take (b - a) := by
  have h : (s.extract a b).data.toList = (s.data.toList.drop a).take (b - a) := by
    rw [ByteArray.data_extract, Array.toList_extract, List.extract_eq_take_drop]
  unfold bl
  rw [h, List.map_take, List.map_drop]
set_option maxRecDepth 100000 in
set_option maxHeartbeats 2000000 in
theorem split_any (p : ByteArray) (w : World) (hp : p.size ≤ 1000000) :
    Calls Tryz.prog 164 #[.string p] w fun e w' => ∃ (Ps : List ByteArray) (left : ByteArray) (A : Option Addr) (c : Nat) (er : Int), e = .returned (.tuple #[.slice A Ps.length c, .string left, .int .i64 er]) ∧
      w'.ownsRow w.heap.size 9 1 (.slice A Ps.length c) Ps.length (strs Ps) ∧ splitG (bl p) = ((Ps.map bl, bl left), er) ∧ Ps.length ≤ 16 ∧ ((∀ q ∈ Ps, q.size ≤ 1000000) ∧ left.size ≤ 1000000) ∧ Below w.heap.size w w' := by
  by_cases h1 : 600 < p.size
  · have HR := Lib.hid (show splitG (bl p) = (([], []), 5) by unfold splitG; rw [if_pos (by rw [bl_len]; exact h1)])
    have hz1 : decide ((p.size : Int) > 600) = true := by simp; omega
    have hz2 : decide (600 < p.size) = true := by simp; omega
    go_enter Tryz.func164, Tryz.ntmps164
    go_wp2_with fail
    try rw [Exit.noGoto_ret]
    go_ret3
    exact ⟨[], .empty, none, 0, 5, rfl, own_nil, by rw [HR.out]; rfl, by simp, by simp, Below.refl _ _⟩
  · have hz1 : decide ((p.size : Int) > 600) = false := by simp; omega
    have hz2 : decide (600 < p.size) = false := by simp; omega
    by_cases h0 : p.size = 0
    · have HR := Lib.hid (show splitG (bl p) = (([], []), 4) by unfold splitG; rw [bl_nil h0]; rfl)
      go_enter Tryz.func164, Tryz.ntmps164
      have hem := emp_yes h0
      go_wp2_with fail
      try rw [Exit.noGoto_ret]
      go_ret3
      exact ⟨[], .empty, none, 0, 4, rfl, own_nil, by rw [HR.out]; rfl, by simp, by simp, Below.refl _ _⟩
    · have hem := emp_no h0
      have i0 := fun W => run_byt (t := 9) (s := p) (k := 0) (i := 0) rfl Tryz.underlying9 (by omega) W
      have hb := byt_lt p 0
      obtain ⟨n, hnn⟩ : ∃ n, n = byt p 0 := ⟨_, rfl⟩
      have hbl : bl p = n :: (bl p).drop 1 := by rw [hnn]; exact bl_one (by omega)
      rw [← hnn] at i0 hb
      by_cases h16 : 16 < n
      · have HR := Lib.hid (show splitG (bl p) = (([], []), 3) by
          unfold splitG; rw [if_neg (by rw [bl_len]; omega), hbl]; simp only; rw [if_pos h16])
        have hz3 : decide ((n : Int) > 16) = true := by simp; omega
        have hz4 : decide (16 < (n : Int)) = true := by simp; omega
        have hz5 : decide (16 < n) = true := by simp; omega
        clear hnn hbl
        go_enter Tryz.func164, Tryz.ntmps164
        go_wp2_with fail
        try rw [Exit.noGoto_ret]
        go_ret3
        exact ⟨[], .empty, none, 0, 3, rfl, own_nil, by rw [HR.out]; rfl, by simp, by simp, Below.refl _ _⟩
      · have hS : splitG (bl p) = match piecesG n (bl (p.extract 1 p.size)) [] with | none => (([], []), 4) | some r => (r, 0) := by
          rw [bl_cut]; unfold splitG; rw [if_neg (by rw [bl_len]; omega), hbl]; simp only; rw [if_neg h16, List.drop_succ_cons, List.drop_zero]; cases piecesG n ((bl p).drop 1) [] <;> rfl
        have HS := Lib.hid hS
        have hes := extract_size' p 1
        have hz3 : decide ((n : Int) > 16) = false := by simp; omega
        have hz4 : decide (16 < (n : Int)) = false := by simp; omega
        have hz5 : decide (16 < n) = false := by simp; omega
        clear hS hnn hbl
        go_enter Tryz.func164, Tryz.ntmps164
        go_wp2_with fail
        go_loopw [2, 3, 21] (fun s2 s3 s21 wr => ∃ (j : Nat) (Ps : List ByteArray) (left : ByteArray) (A : Option Addr) (c : Nat), j ≤ n ∧ s2 = .slice A j c ∧ s3 = .string left ∧ s21 = .int .u8 (j : Int) ∧ left.size ≤ 1000000 ∧
          wr.ownsRow w.heap.size 9 1 (.slice A j c) j (strs Ps) ∧ Below w.heap.size w wr ∧ Hid (piecesG n (bl (p.extract 1 p.size)) [] = piecesG (n - j) (bl left) (Ps.map bl)) ∧ Hid (∀ q ∈ Ps, q.size ≤ 1000000)) (fun _ _ s21 _ => n - (intOf s21).toNat)
        case atStart => exact ⟨0, [], p.extract 1 p.size, none, 0, by omega, rfl, rfl, rfl, by rw [hes]; omega, own_nil, Below.refl _ _, Lib.hid rfl, Lib.hid (by simp)⟩
        case round =>
          obtain ⟨j, Ps, left, A, c, hj, rfl, rfl, rfl, hls, hown, hbr, he, hq⟩ := hrel
          have hPl : Ps.length = j := by have := hown.1; simp [strs] at this; omega
          clear i0 hem
          by_cases hlt : j < n
          · have hz6 : decide ((j : Int) < (n : Int)) = true := by simp; omega
            by_cases hl0 : left.size = 0
            · have hem := emp_yes hl0
              have HR := Lib.hid (show splitG (bl p) = (([], []), 4) by rw [HS.out, he.out, bl_nil hl0, show n - j = (n - j - 1) + 1 by omega]; rfl)
              clear hown he hq
              go_wp2_with fail
              try rw [Exit.noGoto_ret]
              go_ret3
              exact ⟨[], .empty, none, 0, 4, rfl, own_nil, by rw [HR.out]; rfl, by simp, by simp, hbr⟩
            · have hem := emp_no hl0
              have i0 := fun W => run_byt (t := 9) (s := left) (k := 0) (i := 0) rfl Tryz.underlying9 (by omega) W
              have hkb := byt_lt left 0
              obtain ⟨k, hkk⟩ : ∃ k, k = byt left 0 := ⟨_, rfl⟩
              have hbl : bl left = k :: (bl left).drop 1 := by rw [hkk]; exact bl_one (by omega)
              rw [← hkk] at i0 hkb
              have hst : piecesG (n - j) (bl left) (Ps.map bl) = if left.size < 1 + k then none else piecesG (n - (j + 1)) (bl (left.extract (1 + k) left.size)) ((Ps ++ [left.extract 1 (1 + k)]).map bl) := by
                rw [show n - j = (n - (j + 1)) + 1 by omega, hbl]
                simp only [piecesG]
                have hdl : ((bl left).drop 1).length = left.size - 1 := by rw [List.length_drop, bl_len]
                by_cases hc : left.size < 1 + k
                · rw [if_pos hc, if_pos (by omega)]
                · rw [if_neg hc, if_neg (by omega)]
                  rw [bl_cut, List.drop_drop, List.map_append]
                  simp only [List.map_cons, List.map_nil]
                  rw [bl_mid, show 1 + k - 1 = k by omega]
              have HST := Lib.hid (he.out.trans hst)
              clear hkk hbl hst he
              by_cases hc : left.size < 1 + k
              · have HR := Lib.hid (show splitG (bl p) = (([], []), 4) by rw [HS.out, HST.out, if_pos hc])
                have hz7 : decide ((left.size : Int) < 1 + (k : Int)) = true := by simp; omega
                clear hown hq
                go_wp2_with fail
                try rw [Exit.noGoto_ret]
                go_ret3
                exact ⟨[], .empty, none, 0, 4, rfl, own_nil, by rw [HR.out]; rfl, by simp, by simp, hbr⟩
              · have hz7 : decide ((left.size : Int) < 1 + (k : Int)) = false := by simp; omega
                have HE := Lib.hid (show piecesG n (bl (p.extract 1 p.size)) [] = piecesG (n - (j + 1)) (bl (left.extract (1 + k) left.size)) ((Ps ++ [left.extract 1 (1 + k)]).map bl) by rw [HST.out, if_neg hc])
                have hes2 := extract_size' left (1 + k)
                have hes3 : (left.extract 1 (1 + k)).size ≤ 1000000 := by rw [← bl_len, bl_mid, List.length_take]; omega
                have HQ := Lib.hid (show ∀ q ∈ Ps ++ [left.extract 1 (1 + k)], q.size ≤ 1000000 from fun q hqm => by
                  rcases List.mem_append.1 hqm with h | h
                  · exact hq.out q h
                  · rw [List.mem_singleton] at h; subst h; exact hes3)
                have hwr : IntKind.u8.wrap ((j : Int) + 1) = (j : Int) + 1 := by
                  simp only [IntKind.wrap, IntKind.signed, IntKind.bits]; simp; omega
                have hsz := hbr.size
                clear hq HST hes3
                go_wp2_with (at_builtin; refine wpList_app rfl _ _ 52 rfl w.heap.size stT rfl (own_below hown (bal (Below.refl _ _) _)) (strs [left.extract 1 (1 + k)]) rfl (sl_new _ rfl rfl) (by intro u hu; simp [strs] at hu; subst hu; rfl) (by omega) (Nat.le_trans hsz (bal (Below.refl _ _) _).size) ?_; intro A2 c2 w2 hown2 hg2 hat2)
                go_roundw
                case rel => exact ⟨j + 1, Ps ++ [left.extract 1 (1 + k)], left.extract (1 + k) left.size, A2, c2, by omega, rfl, rfl, by simp, by rw [hes2]; omega, by rw [show strs (Ps ++ [left.extract 1 (1 + k)]) = strs Ps ++ strs [left.extract 1 (1 + k)] by simp [strs]]; exact hown2, grown_below (bal hbr _) hg2 (own_below hown (bal (Below.refl _ _) _)), HE, HQ⟩
                case measure => simp [intOf]; omega
          · obtain rfl : j = n := by omega
            have HR := Lib.hid (show splitG (bl p) = ((Ps.map bl, bl left), 0) by rw [HS.out, he.out, Nat.sub_self]; rfl)
            have hz6 : decide ((j : Int) < (j : Int)) = false := by simp
            clear he
            go_wp2_with fail
            go_ret3
            subst hPl
            exact ⟨Ps, left, A, c, 0, rfl, hown, HR.out, by omega, ⟨hq.out, hls⟩, hbr⟩
end Go.Proofs.YtdfkbbcoolgfiaaGreat

namespace Go.Proofs.YtdfkbbcoolgfiaaGreat
open Go.RowKit Go.BigFrame

theorem fz_newG {w : World} {t : TypeId} {g : Nat} (cs : Array Value) (hg : w.heap.size = g) (i : Nat) : (w.alloc (.cells cs t)).frozen? ⟨g, i, none⟩ = false := by
  subst hg
  exact frozen_of_row _ _ _ _ _ (heap_alloc_new w _)
theorem MAt.start {w : World} {t : TypeId} {A : Option Addr} {n c : Nat} {Ps : List ByteArray} (h : Sl w 1 A n (strs Ps)) (hn : Ps.length = n) :
    MAt (w.alloc (.cells #[.slice A n c, .slice none 0 0, .slice none 0 0, .int .i64 0, .int .i64 0, .int .i64 0, .int .i64 0, .bool false, .bool false] t)) w.heap.size Ps startG A c none 0 none 0 := by
  subst hn
  refine ⟨by simp, fz_newG _ rfl, new_cell _ 0, new_cell _ 1, new_cell _ 2, new_cell _ 3, new_cell _ 4, new_cell _ 5, new_cell _ 6, new_cell _ 7, new_cell _ 8, ?_, own_nil, Sl.nil_, Nat.le_refl _, fun h0 => absurd h0 (by simp [startG])⟩
  intro h0
  obtain ⟨b, off, e, hb, hc⟩ := h.2 h0
  exact ⟨b, off, e, hb, fun j u hu => (later_cell (bal (Below.refl _ _) _) hb).trans (hc j u hu)⟩
theorem start_ok : GOK startG := ⟨by simp [startG], by simp [startG], by simp [startG], by simp [startG], rfl, by simp [startG], by simp [startG]⟩

set_option maxRecDepth 100000 in
set_option maxHeartbeats 2000000 in
theorem Run_any (p : ByteArray) (w : World) (hp : p.size ≤ 1000000) :
    Calls Tryz.prog 137 #[.string p] w fun e w' => ∃ (L : List Sg) (wd er : Int) (A : Option Addr) (n c : Nat), e = .returned (.tuple #[.slice A n c, .int .i64 wd, .int .i64 er]) ∧ RunG (bl p) = ((L, wd), er) ∧ L.length = n ∧ n ≤ 300 ∧ n ≤ c ∧
      Sl w' 5 A n (sgs L) ∧ (mayB L = true ∧ 0 ≤ wd ∧ wd ≤ 8191) ∧ Below w.heap.size w w' := by
  go_enter Tryz.func137, Tryz.ntmps137
  go_wp2_with fail
  refine (split_any p _ hp).mono ?_; rintro e w1 ⟨Ps, left, A, c, er, rfl, hown, hS, hP16, ⟨hPs, hls⟩, hb1⟩
  by_cases he : er = 0
  · subst he
    obtain ⟨n, hn⟩ : ∃ n, Ps.length = n := ⟨_, rfl⟩
    have hR : RunG (bl p) = endG (runD (Ps.map bl) 4 true (bl left) startG) := by unfold RunG; rw [hS]; rfl
    rw [hn] at hown ⊢
    have hM := MAt.start (t := 205) (c := c) (own_sl hown) hn
    have HMS := Lib.hid (show MS _ _ _ _ from ⟨start_ok, _, _, _, _, _, _, hM⟩)
    have HRUN := Lib.hid (fun W M h => run_any w1.heap.size Ps hP16 hPs 4 0 rfl left M W hls h)
    have HR := Lib.hid hR
    clear hS hR hM hown
    go_wp2_with fail
    refine (HRUN.out _ _ HMS.out).mono ?_; rintro e w2 ⟨z, rfl, hb2, hr2⟩
    have B2 : Below w.heap.size w w2 := (bal hb1 (.cells #[.slice A n c, .slice none 0 0, .slice none 0 0, .int .i64 0, .int .i64 0, .int .i64 0, .int .i64 0, .bool false, .bool false] 205)).trans (hb2.mono hb1.size)
    cases hr : runD (Ps.map bl) 4 true (bl left) startG with
    | bad er =>
      have h0 : ((0 : Nat) == 0) = true := rfl
      rw [h0, hr] at hr2
      obtain ⟨rfl, hz⟩ := hr2
      have hzz : (z != 0) = true := by simp [hz]
      have HRR := Lib.hid (show RunG (bl p) = (([], 0), z) by rw [HR.out, hr]; rfl)
      clear hr hb2
      go_wp2_with fail
      go_ret3
      exact ⟨[], 0, z, none, 0, 0, rfl, HRR.out, rfl, by omega, Nat.le_refl _, Sl.nil_, ⟨rfl, by omega, by omega⟩, B2⟩
    | ok M2 =>
      have h0 : ((0 : Nat) == 0) = true := rfl
      rw [h0, hr] at hr2
      obtain ⟨rfl, hok, Ap, cp, Aw, cw, Al, cl, hM2⟩ := hr2
      have HRR := Lib.hid (show RunG (bl p) = ((M2.l, M2.wide), 0) by rw [HR.out, hr]; rfl)
      have c2 := hM2.c2
      have c5 := hM2.c5
      have hl3 := (mayB_from hok.may).2
      have HM2 := Lib.hid hM2
      have HOK := Lib.hid hok
      clear hr hb2 hM2 hok
      go_wp2_with fail
      go_quiet (fail)
      go_wp2_with fail
      go_ret3
      exact ⟨M2.l, M2.wide, 0, Al, _, cl, rfl, HRR.out, rfl, hl3, HM2.out.lc, HM2.out.hl.below (bdrewN (Below.refl _ _) _), ⟨HOK.out.may, HOK.out.wide.1, HOK.out.wide.2⟩, bdrewN B2 _⟩
  · have hR : RunG (bl p) = (([], 0), er) := by unfold RunG; rw [hS]; simp only; rw [if_neg he]
    have HR := Lib.hid hR
    have hee : (er != 0) = true := by simp [he]
    clear hS hR hown
    go_wp2_with fail
    go_ret3
    exact ⟨[], 0, er, none, 0, 0, rfl, HR.out, rfl, by omega, Nat.le_refl _, Sl.nil_, ⟨rfl, by omega, by omega⟩, hb1⟩
end Go.Proofs.YtdfkbbcoolgfiaaGreat

namespace Go.Proofs.YtdfkbbcoolgfiaaGreat
open Go.RowKit Go.BigFrame

theorem bl_nums {xs : List Int} (h : ∀ x ∈ xs, 0 ≤ x ∧ x < 256) : bl (strOfNums xs) = xs.map Int.toNat := by
  unfold bl
  rw [strOfNums_data, List.map_map]
  apply List.map_congr_left
  intro x hx
  obtain ⟨h0, h1⟩ := h x hx
  simp only [Function.comp_apply, UInt8.toNat_ofNat']
  omega
theorem bl_add (a b : ByteArray) : bl (a ++ b) = bl a ++ bl b := by simp [bl]
theorem knG1 : RunG (bl { data := #[0, 10] }) = (([], 0), 0) := by decide +kernel
theorem knG2 : RunG (bl (strOfNums [0, 239, 1, 139, 139, 2, 149, 5, 7, 10])) = (([⟨1, 0, 0, 0, 0⟩, ⟨2, 10, 0, 0, 0⟩, ⟨4, 0, 0, 0, 0⟩], 100), 0) := by decide +kernel
theorem knG3 : RunG (bl (strOfNums [1, 2, 149, 9, 139, 139, 2, 139, 8, 5, 10])) = (([⟨1, 0, 0, 0, 0⟩, ⟨2, 10, 0, 0, 0⟩], 0), 0) := by decide +kernel
/-- Run, its answer known. -/
theorem Run_is {p : ByteArray} {L : List Sg} {wd er : Int} {n : Nat} (w : World) (hp : p.size ≤ 1000000) (hr : RunG (bl p) = ((L, wd), er)) (hn : L.length = n) :
    Calls Tryz.prog 137 #[.string p] w fun e w' => ∃ (A : Option Addr) (c : Nat), e = .returned (.tuple #[.slice A n c, .int .i64 wd, .int .i64 er]) ∧ Sl w' 5 A n (sgs L) ∧ Below w.heap.size w w' := by
  refine (Run_any p w hp).mono ?_; rintro e w' ⟨L', wd', er', A, n', c, rfl, hr', hn', _, _, hs, _, hb⟩
  rw [hr] at hr'
  simp only [Prod.mk.injEq] at hr'
  obtain ⟨⟨rfl, rfl⟩, rfl⟩ := hr'
  rw [hn] at hn'
  subst hn'
  exact ⟨A, c, rfl, hs, hb⟩

end Go.Proofs.YtdfkbbcoolgfiaaGreat
