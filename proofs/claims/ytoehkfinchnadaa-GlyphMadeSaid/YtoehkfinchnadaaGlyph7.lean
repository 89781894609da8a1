/- Letters' programs: a piece that is called. -/
import Derived.Test.YtoehkfinchnadaaGlyph5
import Derived.Test.YtoehkfinchnadaaGlyph6
namespace Go.Proofs.Ytoehkfinchnadaa
open Go.RowKit Go.BigFrame

/-- What a piece's run answers. -/
def RPost (g : Nat) (P : List ByteArray) (w : World) (r : GR) (e : Ending) (w' : World) : Prop :=
  ∃ z, e = .returned (.int .i64 z) ∧ Below g w w' ∧ match r with
    | .bad er => z = er ∧ er ≠ 0
    | .ok M => z = 0 ∧ MS w' g P M
theorem own_pop {w : World} {base : Nat} {e : TypeId} {k n c : Nat} {xs : List Value} (h : w.ownsRow base e 1 (.slice (some ⟨k, 0, none⟩) (n + 1) c) (n + 1) xs) : w.ownsRow base e 1 (.slice (some ⟨k, 0, none⟩) n c) n (xs.take n) := by
  have hl := h.1
  rcases h.2 with ⟨hv, _⟩ | ⟨g, cap, cur, hv, hb, hg, hn, hm, hs, hx⟩
  · cases hv
  · simp only [Value.slice.injEq] at hv
    obtain ⟨hv, _, rfl⟩ := hv
    injection hv with hv; injection hv with hv; subst hv
    refine ⟨by rw [List.length_take]; omega, .inr ⟨k, c, cur, rfl, hb, hg, by omega, hm, hs, ?_⟩⟩
    rw [← hx, List.take_take]
    congr 1; omega
theorem own_some {w : World} {base : Nat} {e : TypeId} {s n c : Nat} {A : Option Addr} {xs : List Value} (h : w.ownsRow base e s (.slice A n c) n xs) (hn : 0 < n) : ∃ k, A = some ⟨k, 0, none⟩ ∧ base ≤ k ∧ k < w.heap.size := by
  rcases h.2 with ⟨_, h0⟩ | ⟨g, cap, cur, hv, hb, hg, _⟩
  · omega
  · simp only [Value.slice.injEq] at hv
    exact ⟨g, hv.1, hb, (Array.getElem?_eq_some_iff.1 hg).1⟩
theorem ints_take (v : List Int) : ints v.dropLast = (ints v).take (v.length - 1) := by
  unfold ints; rw [List.dropLast_eq_take, List.map_take]
theorem GOK.pop {M : GM} (h : GOK M) : GOK { M with wait := M.wait.dropLast } := ⟨by have := h.w24; simp only [List.length_dropLast]; omega, fun v hv => h.wv v ((List.dropLast_sublist _).subset hv), h.x, h.y, h.may, h.wide, h.ops⟩
theorem last_is {l : List Int} {n : Nat} (h : l.length = n + 1) : l.getLast? = some (l[n]?.getD 0) := by
  rw [List.getLast?_eq_getElem?, h, Nat.add_sub_cancel, List.getElem?_eq_getElem (by omega)]; rfl

set_option maxHeartbeats 2000000 in
theorem call_any (g : Nat) (P : List ByteArray) (deep : Nat) (deeper : Nat → GM → GR) (M : GM) (w : World) (hP : P.length ≤ 16) (hd : deep ≤ 4)
    (hmost : deep = 4 → ∀ k M, deeper k M = .bad 5)
    (hdeep : deep < 4 → ∀ (k : Nat) (hk : k < P.length) (M : GM) (w : World), MS w g P M → Calls Try.prog 13 #[.pointer (some ⟨g, 0, none⟩), .string P[k], .int .i64 ((deep : Int) + 1)] w (RPost g P w (deeper k M)))
    (h : MS w g P M) :
    Calls Try.prog 22 #[.pointer (some ⟨g, 0, none⟩), .int .i64 (deep : Int)] w (RPost g P w (callG P.length deeper M)) := by
  obtain ⟨hok, Ap, cp, Aw, cw, Al, cl, hM⟩ := h
  have c1 := hM.c1
  have nf1 := hM.nf 1
  have hlt := hM.lt
  have HM := Lib.hid hM
  have HOK := Lib.hid hok
  have HDP := Lib.hid hdeep
  have HMO := Lib.hid hmost
  obtain ⟨n, hn⟩ : ∃ n, M.wait.length = n := ⟨_, rfl⟩
  cases n with
  | zero =>
    have HR := Lib.hid (show callG P.length deeper M = .bad 7 by unfold callG; rw [List.length_eq_zero_iff.1 hn]; rfl)
    rw [hn] at c1
    clear hM hok hdeep hmost hn
    go_enter Try.func22, Try.ntmps22
    go_wp2_with fail
    go_ret
    exact ⟨7, rfl, Below.refl _ _, by rw [HR.out]; exact ⟨rfl, by omega⟩⟩
  | succ n =>
    have hn24 := hok.w24
    have hw0 := hM.hw
    rw [hn] at c1 hn24 hw0
    obtain ⟨kb, rfl, hkg, hks⟩ := own_some hw0 (by omega)
    obtain ⟨b, off, hA, _, k0⟩ := (own_sl hw0).at (k := n) (by omega)
    obtain ⟨rfl, rfl⟩ := Sl.inj hA
    rw [Nat.zero_add] at k0
    have hq1 := hok.wv
    obtain ⟨q, hq⟩ : ∃ q, q = M.wait[n]?.getD 0 := ⟨_, rfl⟩
    have hqb : -33000 ≤ q ∧ q ≤ 33000 := by
      have := VB.of hok.wv n
      rw [hq]; exact this
    rw [← hq] at k0
    have hlast : M.wait.getLast? = some q := by rw [hq]; exact last_is hn
    have hC : callG P.length deeper M = if q < 0 ∨ (P.length : Int) ≤ q then .bad 3 else deeper q.toNat { M with wait := M.wait.dropLast } := by unfold callG; rw [hlast]
    have HC := Lib.hid hC
    have hpop := own_pop hw0
    have hld : M.wait.dropLast.length = n := by rw [List.length_dropLast]; omega
    have hM2 := fun (W : World) (hb : Below w.heap.size w W) => (hM.below hb).setWait (v := M.wait.dropLast) (A := some ⟨kb, 0, none⟩) (c := cw) (n := n) (by rw [ints_take, hn]; exact own_below hpop hb) hld (fun h0 b off e k hk => (hM.lg h0 b off e).2 k (by rw [hn]; exact hk))
    have hp0 := hM.hp
    have c0 := hM.c0
    have HM2 := Lib.hid hM2
    have hne : g ≠ kb := by omega
    have hcap := own_cap hw0
    have B2 : ∀ (W : World) (u : Value), Below w.heap.size w W → Below g w (W.setCell ⟨g, 1, none⟩ u) := fun W u hb => (hb.mono (by omega)).setCell (p := ⟨g, 1, none⟩) (Nat.le_refl g) u
    have HB2 := Lib.hid B2
    have hz1 : (((n : Int) + 1) == 0) = false := by simp; omega
    clear hM hok hdeep hmost hn hw0 hq1 hq hlast hC hpop hld hM2 hA B2
    by_cases h0 : q < 0
    · have HR := Lib.hid (show callG P.length deeper M = .bad 3 by rw [HC.out, if_pos (.inl h0)])
      have hd1 : decide (q < 0) = true := by simp [h0]
      go_enter Try.func22, Try.ntmps22
      go_wp2_with fail
      go_quiet (fail)
      go_wp2_with fail
      go_region
      all_goals
        go_wp2_with fail
        go_ret
        exact ⟨3, rfl, HB2.out _ _ (bdrew (bdrewN (Below.refl _ _) _)), by rw [HR.out]; exact ⟨rfl, by omega⟩⟩
    · have hd1 : decide (q < 0) = false := by simp; omega
      by_cases h1 : (P.length : Int) ≤ q
      · have HR := Lib.hid (show callG P.length deeper M = .bad 3 by rw [HC.out, if_pos (.inr h1)])
        have hd2 : decide (q ≥ (P.length : Int)) = true := by simp; omega
        have hd3 : decide ((P.length : Int) ≤ q) = true := by simp; omega
        go_enter Try.func22, Try.ntmps22
        go_wp2_with fail
        go_quiet (fail)
        go_wp2_with fail
        go_region
        all_goals
          go_wp2_with fail
          go_ret
          exact ⟨3, rfl, HB2.out _ _ (bdrew (bdrewN (Below.refl _ _) _)), by rw [HR.out]; exact ⟨rfl, by omega⟩⟩
      · have hd2 : decide (q ≥ (P.length : Int)) = false := by simp; omega
        have hd3 : decide ((P.length : Int) ≤ q) = false := by simp; omega
        have hC2 : callG P.length deeper M = deeper q.toNat { M with wait := M.wait.dropLast } := by rw [HC.out, if_neg (by omega)]
        by_cases h4 : deep = 4
        · have HR := Lib.hid (show callG P.length deeper M = .bad 5 by rw [hC2, HMO.out h4])
          subst h4
          clear hC2
          go_enter Try.func22, Try.ntmps22
          go_wp2_with fail
          go_quiet (fail)
          go_wp2_with fail
          go_region
          all_goals
            go_wp2_with fail
            go_ret
            exact ⟨5, rfl, HB2.out _ _ (bdrew (bdrewN (Below.refl _ _) _)), by rw [HR.out]; exact ⟨rfl, by omega⟩⟩
        · have hd4 : ((deep : Int) == 4) = false := by simp; omega
          have hd5 : (deep == 4) = false := by simp; omega
          obtain ⟨qn, rfl⟩ : ∃ qn : Nat, q = (qn : Int) := ⟨q.toNat, by omega⟩
          have hqn : qn < P.length := by omega
          obtain ⟨bp, op, rfl, hbp, hcp⟩ := hp0 (by omega)
          have p0 := hcp qn (.string P[qn]) (by unfold strs; rw [List.getElem?_map, List.getElem?_eq_getElem hqn]; rfl)
          have hnbp : g ≠ bp := by omega
          have HC2 := Lib.hid hC2
          obtain ⟨str, hstr⟩ : ∃ str, str = P[qn] := ⟨_, rfl⟩
          rw [← hstr] at p0
          have hrun : ∀ W, MS W g P { M with wait := M.wait.dropLast } → Calls Try.prog 13 #[.pointer (some ⟨g, 0, none⟩), .string str, .int .i64 ((deep : Int) + 1)] W (RPost g P W (deeper qn { M with wait := M.wait.dropLast })) := by
            intro W hW; rw [hstr]; exact HDP.out (by omega) qn hqn _ W hW
          have HRUN := Lib.hid hrun
          clear hC2 hcp hp0 hstr hrun
          go_enter Try.func22, Try.ntmps22
          go_wp2_with fail
          go_quiet (fail)
          go_wp2_with fail
          go_region
          all_goals
            go_wp2_with fail
            refine (HRUN.out _ ⟨HOK.out.pop, _, _, _, _, _, _, HM2.out _ (bdrewN (Below.refl _ _) _)⟩).mono ?_; rintro e w2 ⟨z, rfl, hb2, hr2⟩
            go_wp2_with fail
            go_ret
            exact ⟨z, rfl, (HB2.out _ _ (bdrewN (Below.refl _ _) _)).trans hb2, by rw [HC2.out]; exact hr2⟩
end Go.Proofs.Ytoehkfinchnadaa
