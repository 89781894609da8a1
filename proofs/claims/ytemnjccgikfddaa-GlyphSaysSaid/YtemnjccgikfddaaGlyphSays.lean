/- The walk of GlyphSays: it returns true. -/
import Derived.Test.YtemnjccgikfddaaGRefC2
import Derived.Test.YtemnjccgikfddaaGRef12
namespace Go.Proofs.Ytemnjccgikfddaa
open Go.RowKit Go.BigFrame

theorem ref_Run_is {p : ByteArray} {L : List Sg} {wd er : Int} {n : Nat} (w : World) (hp : p.size ≤ 1000000) (hr : RunG (bl p) = ((L, wd), er)) (hn : L.length = n) :
    Calls Try.prog 8 #[.string p] w fun e w' => ∃ (A : Option Addr) (c : Nat), e = .returned (.tuple #[.slice A n c, .int .i64 wd, .int .i64 er]) ∧ Sl w' 5 A n (sgs L) ∧ Below w.heap.size w w' := by
  refine (ref_Run_any p w hp).mono ?_; rintro e w' ⟨L', wd', er', A, n', c, rfl, hr', hn', _, hs, hb⟩
  rw [hr] at hr'
  simp only [Prod.mk.injEq] at hr'
  obtain ⟨⟨rfl, rfl⟩, rfl⟩ := hr'
  rw [hn] at hn'
  subst hn'
  exact ⟨A, c, rfl, hs, hb⟩
theorem ref_Code_is (A : Option Addr) (n c : Nat) (l : List Sg) (wide : Int) (w : World) (h : Sl w 5 A n (sgs l)) (hn : n ≤ 100000) :
    Calls Try.prog 13 #[.slice A n c, .int .i64 wide] w fun e w' => e = .returned (.tuple #[.string (strOfNums ((codeG l wide).1.map Int.ofNat)), .int .i64 (codeG l wide).2]) ∧ Below w.heap.size w w' := by
  refine (ref_Code_any A n c l wide w h hn).mono ?_; rintro e w' ⟨s, rfl, hs, hb⟩
  have hby : ∀ b ∈ (codeG l wide).1, b < 256 := by
    rcases codeG_cases l wide with ⟨g1, _⟩ | g1 | g1
    · rw [g1]; exact codeS_byte l wide
    · rw [g1]; simp
    · rw [g1]; simp
  have : s = strOfNums ((codeG l wide).1.map Int.ofNat) := bl_inj (by rw [hs, bl_nat hby])
  rw [this]; exact ⟨rfl, hb⟩
set_option maxRecDepth 100000 in
set_option maxHeartbeats 4000000 in
theorem GlyphSays_any (p : ByteArray) (A : Option Addr) (n c : Nat) (l : List Sg) (wide : Int) (w : World) (_hp : p.size ≤ maxLen) (hs : Sl w 5 A n (sgs l)) (hc : n ≤ 9223372036854775807) :
    Calls Try.prog 4 #[.string p, .slice A n c, .int .i64 wide] w fun e w' => e = .returned (.bool true) ∧ Below w.heap.size w w' := by
  by_cases h2 : p.size ≤ 2000
  · have hd : decide ((p.size : Int) > 2000) = false := by simp; omega
    by_cases hf : (n : Int) ≤ 320
    · have hdf : decide ((n : Int) ≤ 320) = true := by simpa using hf
      obtain ⟨⟨⟨L, wd⟩, er⟩, hR⟩ : ∃ r, RunG (bl p) = r := ⟨_, rfl⟩
      obtain ⟨m, hm⟩ : ∃ m, L.length = m := ⟨_, rfl⟩
      obtain ⟨s, hs'⟩ : ∃ s, strOfNums ((codeG l wide).1.map Int.ofNat) = s := ⟨_, rfl⟩
      obtain ⟨z, hz⟩ : ∃ z, (codeG l wide).2 = z := ⟨_, rfl⟩
      have K1 := Lib.hid fun W => Run_any p W (by omega)
      have K2 := Lib.hid fun W => ref_Run_is (p := p) W (by omega) hR hm
      have K3 := Lib.hid fun W (h : Sl W 5 A n (sgs l)) => Code_any A n c l wide W h (by omega)
      have K4 := Lib.hid fun W (h : Sl W 5 A n (sgs l)) => ref_Code_is A n c l wide W h (by omega)
      simp only [hs', hz] at K3 K4
      have HR := Lib.hid hR
      have HM := Lib.hid hm
      have e1 : (wd == wd) = true := by simp
      have e2 : (er == er) = true := beq_self_eq_true er
      have e3 : (z == z) = true := by simp
      clear hR hm hs' hz
      go_enter Try.func4, Try.ntmps4
      go_wp2_with fail
      refine (known40_any _).mono ?_; rintro e w1 ⟨rfl, hb1⟩
      go_wp2_with fail
      refine (Few_say _ _ _ _ (by omega)).mono ?_; rintro e w' ⟨rfl, rfl⟩
      go_wp2_with fail
      refine (K1.out _).mono ?_; rintro e w2 ⟨L', wd', er', A2, n2, c2, rfl, hr', hn', hn3, hnc2, hs2, _, hb2⟩
      rw [HR.out] at hr'
      simp only [Prod.mk.injEq] at hr'
      obtain ⟨⟨rfl, rfl⟩, rfl⟩ := hr'
      rw [HM.out] at hn'
      subst hn'
      have B2 := btr hb1 hb2
      clear hb1 hb2
      go_wp2_with fail
      refine (K2.out _).mono ?_; rintro e w3 ⟨A3, c3, rfl, hs3, hb3⟩
      have B3 := btr B2 hb3
      have hs2' := hs2.below hb3
      clear hb3 hs2 B2
      go_wp2_with fail
      refine (K3.out _ (hs.below B3)).mono ?_; rintro e w4 ⟨rfl, hb4⟩
      have B4 := btr B3 hb4
      have hs2 := hs2'.below hb4
      have hs3' := hs3.below hb4
      clear hb4 hs2' hs3 B3
      go_wp2_with fail
      refine (K4.out _ (hs.below B4)).mono ?_; rintro e w5 ⟨rfl, hb5⟩
      have B5 := btr B4 hb5
      have hs2' := hs2.below hb5
      have hs3 := hs3'.below hb5
      clear hb5 hs2 hs3' B4
      go_wp2_with fail
      refine (sameSg_any _ _ _ _ _ _ L _ (by omega) hs2' hs3).mono ?_; rintro e w6 ⟨rfl, q6, rfl⟩
      go_wp2_with fail
      go_ret
      exact ⟨rfl, bdrewN B5 q6⟩
    · have hdf : decide ((n : Int) ≤ 320) = false := by simpa using hf
      go_enter Try.func4, Try.ntmps4
      go_wp2_with fail
      refine (known40_any _).mono ?_; rintro e w1 ⟨rfl, hb1⟩
      go_wp2_with fail
      refine (Few_say _ _ _ _ (by omega)).mono ?_; rintro e w' ⟨rfl, rfl⟩
      go_wp2_with fail
      go_ret
      exact ⟨rfl, hb1⟩
  · have hd : decide ((p.size : Int) > 2000) = true := by simp; omega
    go_enter Try.func4, Try.ntmps4
    go_wp2_with fail
    refine (known40_any _).mono ?_; rintro e w1 ⟨rfl, hb1⟩
    go_wp2_with fail
    go_ret
    exact ⟨rfl, hb1⟩
end Go.Proofs.Ytemnjccgikfddaa
