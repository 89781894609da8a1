/- tympanlaw40: bytes by numbers. -/
import Derived.Test.YtoehkfinchnadaaNum
import Derived.Test.YtoehkfinchnadaaGlyphCode1
import Derived.Test.YtoehkfinchnadaaGlyph12
namespace Go.Proofs.Ytoehkfinchnadaa
open Go.RowKit Go.BigFrame

def u8c (xs : List Int) : List Value := xs.map (Value.int .u8)
theorem oneU8 (xs : List Int) : ∀ u ∈ u8c xs, u.oneCell' = true := by
  intro u hu; simp only [u8c, List.mem_map] at hu; obtain ⟨z, _, rfl⟩ := hu; rfl
theorem u8c_app (a b : List Int) : u8c (a ++ b) = u8c a ++ u8c b := by simp [u8c]
theorem ng_grow {w wr w2 : World} {g : Nat} {r : Option Nat} (h : w.grownBy wr (some g)) (hg : wr.grownBy w2 r) (hr : ∀ k, r = some k → w.heap.size ≤ k) : w.grownBy w2 (some g) :=
  ⟨hg.os.trans h.os, hg.tape.trans h.tape, hg.output.trans h.output, Nat.le_trans h.size hg.size, fun k hk hne => (hg.block k (Nat.lt_of_lt_of_le hk h.size) (fun e => by have := hr k e.symm; omega)).trans (h.block k hk hne)⟩
theorem ln_al {w : World} {g : Nat} (h : LN w g) (o : Obj) : LN (w.alloc o) g := LN_grown h (row := none) ⟨rfl, rfl, rfl, by simp, fun k hk _ => (bal (Below.refl w.heap.size w) o).block k hk⟩ (by intro k hk; cases hk)
/-- A row of bytes under way. -/
structure BS (w : World) (g : Nat) (W : World) (A : Option Addr) (m c : Nat) (xs : List Int) : Prop where
  own : W.ownsRow w.heap.size 5 1 (.slice A m c) m (u8c xs)
  ln : LN W g
  gr : w.grownBy W (some g)
section
variable {w W W' : World} {g m c : Nat} {A : Option Addr} {xs : List Int}
theorem BS.next (h : BS w g W A m c xs) (hgw : g < w.heap.size) (hl : LN W' g) (hg : W.grownBy W' (some g)) : BS w g W' A m c xs := ⟨own_g h.own hg hgw, hl, ggtr h.gr hg⟩
theorem BS.al (h : BS w g W A m c xs) (o : Obj) : BS w g (W.alloc o) A m c xs :=
  ⟨own_below h.own (bal (Below.refl _ _) _), ln_al h.ln o, ng_grow h.gr (r := none) ⟨rfl, rfl, rfl, by simp, fun k hk _ => (bal (Below.refl W.heap.size W) o).block k hk⟩ (by intro k hk; cases hk)⟩
theorem BS.app (h : BS w g W A m c xs) (hgw : g < w.heap.size) {A2 : Option Addr} {c2 k : Nat} {ys : List Int} (ho : W'.ownsRow w.heap.size 5 1 (.slice A2 (m + k) c2) (m + k) (u8c xs ++ u8c ys)) (hg : W.grownBy W' (Value.ownBlock (.slice A m c))) : BS w g W' A2 (m + k) c2 (xs ++ ys) :=
  ⟨by rw [u8c_app]; exact ho, LN_grown h.ln hg (fun k hk => by have := (h.own.lt k hk).1; omega), ng_grow h.gr hg (fun k hk => (h.own.lt k hk).1)⟩
theorem BS.sz (h : BS w g W A m c xs) : w.heap.size ≤ W.heap.size := h.gr.size
end
set_option maxRecDepth 100000 in
set_option maxHeartbeats 1000000 in
theorem numbers_any (g k0 : Nat) (w : World) (h : LN w g) (hk0 : k0 ≤ 100) :
    Calls Try.prog 20 #[.pointer (some ⟨g, 0, none⟩), .int .i64 (k0 : Int)] w fun e w' => ∃ A c xs, e = .returned (.slice A k0 c) ∧ BS w g w' A k0 c xs := by
  have hgw := LN_lt h
  go_enter Try.func20, Try.ntmps20
  go_wp2
  go_loopw [5, 6] (fun s5 s6 wr => ∃ (k : Nat) (A : Option Addr) (c : Nat) (xs : List Int), k ≤ k0 ∧ s5 = .slice A k c ∧ s6 = .int .i64 (k : Int) ∧ BS w g wr A k c xs) (fun _ s6 _ => k0 - (intOf s6).toNat)
  case atStart => exact ⟨0, none, 0, [], by omega, rfl, rfl, own_nil, h, grefl _ _⟩
  case round =>
    obtain ⟨k, A, c, xs, hk, rfl, rfl, hB⟩ := hrel
    by_cases hlt : k < k0
    · go_wp2_with fail
      refine (Next_any g 90 _ (by omega) hB.ln).mono ?_; rintro e wn ⟨⟨v, rfl, hv1, hv2⟩, hln, hgn⟩
      replace hB := hB.next hgw hln hgn
      clear hln hgn
      go_wp2_with (at_builtin; refine wpList_app rfl _ _ 36 rfl w.heap.size u8T rfl (BS.own (BS.al hB _)) (u8c [_]) rfl (sl_new _ rfl rfl) (oneU8 [_]) (by omega) (BS.sz (BS.al hB _)) ?_; intro A2 c2 w2 hown2 hg2 hat2; have hBz := BS.app (BS.al hB _) hgw hown2 hg2; clear hown2 hg2 hat2)
      go_roundw
      case rel => exact ⟨k + 1, A2, c2, _, by omega, rfl, by simp, hBz⟩
      case measure => simp [intOf]; omega
    · obtain rfl : k = k0 := by omega
      go_wp2_with fail
      go_ret
      exact ⟨A, c, xs, rfl, hB⟩
end Go.Proofs.Ytoehkfinchnadaa
