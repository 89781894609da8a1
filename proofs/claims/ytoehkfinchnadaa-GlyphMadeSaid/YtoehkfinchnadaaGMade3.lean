/- tympanlaw40.prog: a program by numbers. -/
import Derived.Test.YtoehkfinchnadaaGMade2
namespace Go.Proofs.Ytoehkfinchnadaa
open Go.RowKit Go.BigFrame

theorem conv_u8 {W : World} {A : Option Addr} {n c : Nat} {xs : List Int} (h : Sl W 1 A n (u8c xs)) (hn : 0 < n) : (convert 36 9 (.slice A n c)).run Try.prog W = .ok (.string (strOfNums xs)) W := by
  obtain ⟨b, off, rfl, hlt, hc⟩ := h.2 hn
  have hl : xs.length = n := by have := h.1; simp [u8c] at this; omega
  refine run_convert_bytes_arg W 36 5 Try.underlying36 Try.underlying5 b off n c xs (by simpa using hl) (fun i hi => ?_) 9 Try.underlying9
  rw [hc i (.int .u8 (xs[i]'(by omega))) (by simp [u8c, hl, hi])]
  simp [List.getD, List.getElem?_eq_getElem (show i < xs.length by omega)]
theorem BS.sub {w wr w' : World} {g m c m2 c2 : Nat} {A A2 : Option Addr} {xs ys : List Int} (h : BS w g wr A m c xs) (hgw : g < w.heap.size) (h2 : BS wr g w' A2 m2 c2 ys) : BS w g w' A m c xs := h.next hgw h2.ln h2.gr
theorem own_offm {w w' : World} {base : Nat} {e : TypeId} {s n : Nat} {v u : Value} {xs : List Value} (h : w.ownsRow base e s v n xs) (hg : w.grownBy w' u.ownBlock) (hne : ∀ k, v.ownBlock = some k → u.ownBlock = some k → False) : w'.ownsRow base e s v n xs :=
  h.kept hg (by
    cases hv : v.ownBlock with
    | none => simp
    | some k =>
      cases hu : u.ownBlock with
      | none => simp
      | some k2 =>
        simp
        intro e; subst e; exact hne _ hv hu)
theorem BS.keep {w W W' : World} {g m c : Nat} {A : Option Addr} {xs : List Int} {u : Value} (h : BS w g W A m c xs) (hgw : g < w.heap.size) (hg : W.grownBy W' u.ownBlock) (hne : ∀ k, (Value.slice A m c).ownBlock = some k → u.ownBlock = some k → False) (hr : ∀ k, u.ownBlock = some k → w.heap.size ≤ k) : BS w g W' A m c xs :=
  ⟨own_offm h.own hg hne, LN_grown h.ln hg (fun k hk => by have := hr k hk; omega), ng_grow h.gr hg hr⟩
theorem sl_offm {w w' : World} {s n : Nat} {A : Option Addr} {u : Value} {xs : List Value} (h : Sl w s A n xs) (hg : w.grownBy w' u.ownBlock) (hne : 0 < n → ∀ b off, A = some ⟨b, off, none⟩ → u.ownBlock = some b → False) : Sl w' s A n xs :=
  ⟨h.1, fun hn => by
    obtain ⟨b, off, e, hb, hc⟩ := h.2 hn
    exact ⟨b, off, e, Nat.lt_of_lt_of_le hb hg.size, fun j x hx => (World.cell?_of_block (a := ⟨b, off + j, none⟩) (hg.block b hb (fun e2 => hne hn b off e e2.symm))).trans (hc j x hx)⟩⟩
set_option maxRecDepth 100000 in
set_option maxHeartbeats 4000000 in
theorem prog_any (A : Option Addr) (n c : Nat) (w : World) (h : InA w A n) (hnc : n ≤ c) (hcm : c ≤ 9223372036854775807) :
    Calls Try.prog 5 #[.slice A n c] w fun e w' => ∃ p : ByteArray, e = .returned (.string p) ∧ p.size ≤ 1000000 ∧ Below w.heap.size w w' := by
  obtain ⟨W0, hW0⟩ : ∃ W0 : World, W0 = w.alloc (.cells #[.slice A n c] 39) := ⟨_, rfl⟩
  have hLN : LN W0 w.heap.size := by rw [hW0]; exact LN_new h hnc hcm rfl
  have hB0 : Below w.heap.size w W0 := by rw [hW0]; exact bal (Below.refl _ _) _
  have hgw : w.heap.size < W0.heap.size := by rw [hW0]; simp
  obtain ⟨g, hg⟩ : ∃ g, g = w.heap.size := ⟨_, rfl⟩
  rw [← hg] at hLN hgw
  go_enter Try.func5, Try.ntmps5
  go_wp2_with fail
  rw [← hW0, ← hg]
  have HG := Lib.hid hg
  clear hW0 h hg
  have hS : BS W0 g W0 none 0 0 [] := ⟨own_nil, hLN, grefl _ _⟩
  refine (Next_any g 4 _ (by omega) hS.ln).mono ?_; rintro e wn ⟨⟨v, rfl, hn1, hn2⟩, hln, hgn⟩
  replace hS := hS.next hgw hln hgn
  clear hln hgn
  obtain ⟨kn, rfl⟩ : ∃ kn : Nat, v = (kn : Int) := ⟨v.toNat, by omega⟩
  have hkn : kn < 4 := by omega
  have hown := own_new (w := wn) (t := 5) (n := 1) (s := 1) (base := W0.heap.size) (u8c [(kn : Int)]) rfl rfl hS.gr.size (by omega)
  have hB1 : BS W0 g (wn.alloc (.cells #[.int .u8 (kn : Int)] 5)) (some ⟨wn.heap.size, 0, none⟩) 1 1 [(kn : Int)] := ⟨hown, ln_al hS.ln _, (hS.al _).gr⟩
  clear hown hn1 hn2
  have HP6 : Hid (∀ W : World, LN W g → Calls Try.prog 11 #[.pointer (some ⟨g, 0, none⟩), .int .i64 6, .int .i64 (kn : Int)] W fun e w' => ∃ m A c xs, e = .returned (.slice A m c) ∧ m ≤ 400 ∧ BS W g w' A m c xs) := Lib.hid (fun W h => piece40_any g 6 kn W h (by omega) (by omega))
  have HP40 : Hid (∀ W : World, LN W g → Calls Try.prog 11 #[.pointer (some ⟨g, 0, none⟩), .int .i64 40, .int .i64 (kn : Int)] W fun e w' => ∃ m A c xs, e = .returned (.slice A m c) ∧ m ≤ 400 ∧ BS W g w' A m c xs) := Lib.hid (fun W h => piece40_any g 40 kn W h (by omega) (by omega))
  go_wp2_with fail
  go_loopw [5, 6] (fun s5 s6 wr => ∃ (j m : Nat) (A : Option Addr) (c : Nat) (xs : List Int), j ≤ kn ∧ 1 ≤ m ∧ m ≤ 1 + 402 * j ∧ s5 = .slice A m c ∧ s6 = .int .i64 (j : Int) ∧ BS W0 g wr A m c xs) (fun _ s6 _ => kn - (intOf s6).toNat)
  case atStart => exact ⟨0, 1, _, 1, _, by omega, by omega, by omega, rfl, rfl, hB1⟩
  case round =>
    obtain ⟨j, m, A1, c1, xs, hj, hm1, hm, rfl, rfl, hB⟩ := hrel
    clear hB1 hS
    by_cases hlt : j < kn
    · have hbk : ∀ k, (Value.slice A1 m c1).ownBlock = some k → k < wr.heap.size := fun k hk => (hB.own.lt k hk).2
      have hgr : g < wr.heap.size := LN_lt hB.ln
      have hgwr := hB.sz
      go_wp2_with fail
      refine (HP6.out _ hB.ln).mono ?_; rintro e w1 ⟨mp, Ap, cp, ys, rfl, hmp, hPp⟩
      have hb1 := hB.sub hgw hPp
      clear hB
      go_wp2_with fail
      refine (Next_any g 8 _ (by omega) hb1.ln).mono ?_; rintro e wn2 ⟨⟨z, rfl, hn1, hn2⟩, hln, hgn⟩
      have hP2 := hPp.next hgr hln hgn
      have hb2 := hb1.next hgw hln hgn
      clear hPp hb1 hln hgn
      by_cases hz : 0 < z
      · have hd : decide (z > 0) = true := by simp [hz]
        have hbsz := LN_lt hb2.ln
        go_wp2_with (first | (at_builtin; refine wpList_app rfl _ _ 36 rfl wr.heap.size u8T rfl (BS.own (BS.al hP2 _)) (u8c [9]) rfl (sl_new _ rfl rfl) (oneU8 [9]) (by omega) (BS.sz (BS.al hP2 _)) ?_; intro A5 c5 w5 hown5 hg5 hat5; have hP5 : BS wr g w5 A5 (mp + 1) c5 (ys ++ [9]) := BS.app (BS.al hP2 _) hgr hown5 hg5; have hb5 := BS.keep (BS.al hb2 _) hgw hg5 (fun k h1 h2 => by have := hbk k h1; have := (hP2.own.lt k h2).1; omega) (fun k hk => by have := (hP2.own.lt k hk).1; have := LN_lt hb2.ln; have := hgwr; omega); clear hown5 hg5 hat5; have hPs : Sl w5 1 A5 (mp + 1) (u8c (ys ++ [9])) := own_sl hP5.own; have hPa : ∀ b off, A5 = some ⟨b, off, none⟩ → wr.heap.size ≤ b := own_apart hP5.own) | (at_builtin; refine wpList_app rfl _ _ 36 rfl W0.heap.size u8T rfl (BS.own (BS.al hb5 _)) (u8c [_]) rfl (sl_new _ rfl rfl) (oneU8 [_]) (by omega) (BS.sz (BS.al hb5 _)) ?_; intro A7 c7 w7 hown7 hg7 hat7; have hB7 := BS.app (BS.al hb5 _) hgw hown7 hg7; have hS7 := sl_offm (u := .slice A1 m c1) (hPs.below (bal (Below.refl _ _) _)) hg7 (fun _ b off e hk => by have h1 := hPa b off e; have h2 := hbk b hk; omega); clear hown7 hg7 hat7) | (at_builtin; refine wpList_app rfl _ _ 36 rfl W0.heap.size u8T rfl (BS.own hB7) (u8c (ys ++ [9])) rfl hS7 (oneU8 (ys ++ [9])) (by omega) (BS.sz hB7) ?_; intro A8 c8 w8 hown8 hg8 hat8; have hB8 := BS.app hB7 hgw hown8 hg8; clear hown8 hg8 hat8) | fail)
        go_roundw
        case rel => exact ⟨j + 1, _, A8, c8, _, by omega, by omega, by omega, rfl, by simp, hB8⟩
        case measure => simp [intOf]; omega
      · have hd : decide (z > 0) = false := by simp; omega
        have hPs : Sl _ 1 Ap mp (u8c ys) := own_sl hP2.own
        have hPa : ∀ b off, Ap = some ⟨b, off, none⟩ → wr.heap.size ≤ b := own_apart hP2.own
        have hbsz := LN_lt hb2.ln
        go_wp2_with (first  | (at_builtin; refine wpList_app rfl _ _ 36 rfl W0.heap.size u8T rfl (BS.own (BS.al hb2 _)) (u8c [_]) rfl (sl_new _ rfl rfl) (oneU8 [_]) (by omega) (BS.sz (BS.al hb2 _)) ?_; intro A7 c7 w7 hown7 hg7 hat7; have hB7 := BS.app (BS.al hb2 _) hgw hown7 hg7; have hS7 := sl_offm (u := .slice A1 m c1) (hPs.below (bal (Below.refl _ _) _)) hg7 (fun _ b off e hk => by have h1 := hPa b off e; have h2 := hbk b hk; omega); clear hown7 hg7 hat7) | (at_builtin; refine wpList_app rfl _ _ 36 rfl W0.heap.size u8T rfl (BS.own hB7) (u8c (ys)) rfl hS7 (oneU8 (ys)) (by omega) (BS.sz hB7) ?_; intro A8 c8 w8 hown8 hg8 hat8; have hB8 := BS.app hB7 hgw hown8 hg8; clear hown8 hg8 hat8) | fail)
        go_roundw
        case rel => exact ⟨j + 1, _, A8, c8, _, by omega, by omega, by omega, rfl, by simp, hB8⟩
        case measure => simp [intOf]; omega
    · obtain rfl : j = kn := by omega
      go_wp2_with fail
      refine (HP40.out _ hB.ln).mono ?_; rintro e w1 ⟨mp, Ap, cp, ys, rfl, hmp, hPp⟩
      have hb1 := hB.sub hgw hPp
      have hS5 := own_sl hPp.own
      clear hB hPp
      go_wp2_with (at_builtin; refine wpList_app rfl _ _ 36 rfl W0.heap.size u8T rfl (BS.own hb1) (u8c ys) rfl hS5 (oneU8 ys) (by omega) (BS.sz hb1) ?_; intro A6 c6 w6 hown6 hg6 hat6; have hB6 := BS.app hb1 hgw hown6 hg6; clear hown6 hg6 hat6)
      refine (Next_any g 8 _ (by omega) hB6.ln).mono ?_; rintro e wn ⟨⟨z, rfl, hn1, hn2⟩, hln, hgn⟩
      replace hB6 := hB6.next hgw hln hgn
      clear hln hgn
      by_cases hz : 0 < z
      · have hd : decide (z > 0) = true := by simp [hz]
        go_wp2_with (at_builtin; refine wpList_app rfl _ _ 36 rfl W0.heap.size u8T rfl (BS.own (BS.al hB6 _)) (u8c [10]) rfl (sl_new _ rfl rfl) (oneU8 [10]) (by omega) (BS.sz (BS.al hB6 _)) ?_; intro A7 c7 w2 hown2 hg2 hat2; have hB7 := BS.app (BS.al hB6 _) hgw hown2 hg2; have hc := conv_u8 (c := c7) (own_sl hB7.own) (by omega); clear hown2 hg2 hat2)
        go_wp2_with fail
        go_ret
        exact ⟨_, rfl, by rw [strOfNums_size]; have := hB7.own.1; simp [u8c] at this; simp; omega, by rw [← HG.out] at hB0 ⊢; exact hB0.trans ((g2b' hB7.gr hgw))⟩
      · have hd : decide (z > 0) = false := by simp; omega
        have hc := conv_u8 (c := c6) (own_sl hB6.own) (by omega)
        go_wp2_with fail
        go_ret
        exact ⟨_, rfl, by rw [strOfNums_size]; have := hB6.own.1; simp [u8c] at this; simp; omega, by rw [← HG.out] at hB0 ⊢; exact hB0.trans ((g2b' hB6.gr hgw))⟩
end Go.Proofs.Ytoehkfinchnadaa
