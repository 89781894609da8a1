/- The walk of GlyphCalls: it returns true. -/
import Derived.Test.YtbpeoejjjllieaaGlyphCode3
import Derived.Test.YtbpeoejjjllieaaGlyphCallsP
namespace Go.Proofs.Ytbpeoejjjllieaa
open Go.RowKit

theorem lit1W (W : World) (g : Nat) (a : Int) (hg : W.heap.size = g) : (convert 25 9 (.slice (some ⟨g, 0, none⟩) 1 1)).run Try.prog (W.alloc (.cells #[.int .u8 a] 5)) = .ok (.string (strOfNums [a])) (W.alloc (.cells #[.int .u8 a] 5)) := by subst hg; exact lit_str W [a] 1 rfl
theorem code_five {l : List Sg} {s : ByteArray} {u : Nat} (hb : bl s = codeS l 5) (hu : (codeS l 5).length = u) : bl (s.extract 3 (u - 1)) = bodyG 0 0 0 0 l ∧ u = (bodyG 0 0 0 0 l).length + 4 := by
  have e : codeS l 5 = [0, 144, 1] ++ (bodyG 0 0 0 0 l ++ [10]) := rfl
  have hl : u = (bodyG 0 0 0 0 l).length + 4 := by rw [← hu, e]; simp only [List.length_append, List.length_cons, List.length_nil]; omega
  refine ⟨?_, hl⟩
  rw [bl_mid, hb, e, show List.drop 3 ([0, 144, 1] ++ (bodyG 0 0 0 0 l ++ [10])) = bodyG 0 0 0 0 l ++ [10] from rfl, List.take_append_of_le_length (by omega), List.take_of_length_le (by omega)]
theorem made_sml {l : List Sg} {b : Bool} (h : MadeOK l b) : ∀ s ∈ l, Sml s.x ∧ Sml s.y ∧ Sml s.cx ∧ Sml s.cy := fun s hs => by
  have := h.2.2.1 s hs; unfold smallSg at this; unfold Sml; omega
theorem calls_texts {l m : List Sg} {x y : ByteArray} {a : Nat} (hx : bl x = bodyG 0 0 0 0 l) (hy : bl y = bodyG 0 0 0 0 m) (ha : x.size = a) (ha2 : a ≤ 110) :
    bl ({ data := #[2] } ++ strOfNums [(a : Int) + 1] ++ x ++ { data := #[9] } ++ { data := #[3, 139, 8, 9] } ++ { data := #[140, 8] } ++ y ++ { data := #[139, 8, 10] }) = progCall (bodyG 0 0 0 0 l) (bodyG 0 0 0 0 m) ∧
      bl ({ data := #[0] } ++ x ++ y ++ x ++ { data := #[10] }) = progFlat (bodyG 0 0 0 0 l) (bodyG 0 0 0 0 m) := by
  have e1 : bl { data := #[2] } = [2] := rfl
  have e2 : bl { data := #[9] } = [9] := rfl
  have e3 : bl { data := #[3, 139, 8, 9] } = [3, 139, 8, 9] := rfl
  have e4 : bl { data := #[140, 8] } = [140, 8] := rfl
  have e5 : bl { data := #[139, 8, 10] } = [139, 8, 10] := rfl
  have e6 : bl { data := #[0] } = [0] := rfl
  have e7 : bl { data := #[10] } = [10] := rfl
  have hs : bl (strOfNums [(a : Int) + 1]) = [(bodyG 0 0 0 0 l).length + 1] := by
    rw [bl_nums (by intro z hz; simp only [List.mem_cons, List.not_mem_nil, or_false] at hz; omega), ← hx, bl_len, ha]
    simp only [List.map_cons, List.map_nil]; congr 1
  constructor
  · simp only [bl_add, e1, e2, e3, e4, e5, hs, hx, hy]
    unfold progCall; simp
  · simp only [bl_add, e6, e7, hx, hy]
    unfold progFlat; simp

set_option maxRecDepth 100000 in
set_option maxHeartbeats 2000000 in
theorem GlyphCalls_any (A : Option Addr) (n c : Nat) (A1 : Option Addr) (n1 c1 : Nat) (at_ : Int) (w : World) (h : InA w A n) (hnc : n ≤ c) (hcm : c ≤ 9223372036854775807) (h1 : InA w A1 n1) (hnc1 : n1 ≤ c1) (hcm1 : c1 ≤ 9223372036854775807) :
    Calls Try.prog 7 #[.slice A n c, .slice A1 n1 c1, .int .i64 at_] w fun e w' => e = .returned (.bool true) ∧ Below w.heap.size w w' := by
  have k1 := lit1W
  go_enter Try.func7, Try.ntmps7
  go_wp2_with fail
  refine (known40_any _).mono ?_; rintro e w1 ⟨rfl, hb1⟩
  go_wp2_with fail
  refine (Made_any A n c true w1 (h.below hb1) hnc hcm).mono ?_; rintro e w2 ⟨l, A2, c2, rfl, hown2, hmd2, hb2⟩
  have B2 : Below w.heap.size w w2 := btr hb1 hb2
  have hp2 := own_sl hown2
  have hl12 := hmd2.2.1
  have HMD := Lib.hid hmd2
  clear hb1 hb2 hown2 hmd2
  obtain ⟨m, hm⟩ : ∃ m, l.length = m := ⟨_, rfl⟩
  rw [hm] at hl12 hp2 ⊢
  obtain ⟨hG, hlen⟩ := code_made HMD.out (wide := 5) (by omega)
  obtain ⟨s, hs⟩ : ∃ s, strOfNums ((codeS l 5).map Int.ofNat) = s := ⟨_, rfl⟩
  obtain ⟨u, hu⟩ : ∃ u, (codeS l 5).length = u := ⟨_, rfl⟩
  have hbl : bl s = codeS l 5 := by rw [← hs]; exact bl_nat (codeS_byte l 5)
  have hsz : s.size = u := by rw [← bl_len, hbl]; exact hu
  obtain ⟨hbx, hu4⟩ := code_five hbl hu
  rw [hu] at hlen
  have HG := Lib.hid hG
  have HSS := Lib.hid hs
  clear hG hm hs hbl hu
  go_wp2_with fail
  refine (Code_any _ _ _ l 5 _ hp2 (by omega)).mono ?_; rintro e w3 ⟨rfl, hb3⟩
  rw [HG.out]
  simp only
  rw [HSS.out]
  have B3 := btr B2 hb3
  clear hp2 B2 hb3 HG HSS
  go_wp2_with fail
  refine (Made_any A1 n1 c1 true w3 (h1.below B3) hnc1 hcm1).mono ?_; rintro e w4 ⟨l', A4, c4, rfl, hown4, hmd4, hb4⟩
  have B4 : Below w.heap.size w w4 := btr B3 hb4
  have hp4 := own_sl hown4
  have hl12' := hmd4.2.1
  have HMD' := Lib.hid hmd4
  clear hb4 hown4 hmd4 B3
  obtain ⟨m', hm'⟩ : ∃ m, l'.length = m := ⟨_, rfl⟩
  rw [hm'] at hl12' hp4 ⊢
  obtain ⟨hG, hlen'⟩ := code_made HMD'.out (wide := 5) (by omega)
  obtain ⟨s', hs⟩ : ∃ s, strOfNums ((codeS l' 5).map Int.ofNat) = s := ⟨_, rfl⟩
  obtain ⟨u', hu⟩ : ∃ u, (codeS l' 5).length = u := ⟨_, rfl⟩
  have hbl : bl s' = codeS l' 5 := by rw [← hs]; exact bl_nat (codeS_byte l' 5)
  have hsz' : s'.size = u' := by rw [← bl_len, hbl]; exact hu
  obtain ⟨hby, hu4'⟩ := code_five hbl hu
  rw [hu] at hlen'
  have HG := Lib.hid hG
  have HSS := Lib.hid hs
  clear hG hm' hs hbl hu
  go_wp2_with fail
  refine (Code_any _ _ _ l' 5 _ hp4 (by omega)).mono ?_; rintro e w5 ⟨rfl, hb5⟩
  rw [HG.out]
  simp only
  rw [HSS.out]
  have B5 := btr B4 hb5
  clear hp4 B4 hb5 HG HSS
  have hu3 : 4 ≤ u := by omega
  have hu3' : 4 ≤ u' := by omega
  obtain ⟨x, hx⟩ : ∃ x, s.extract 3 (u - 1) = x := ⟨_, rfl⟩
  obtain ⟨y, hy⟩ : ∃ y, s'.extract 3 (u' - 1) = y := ⟨_, rfl⟩
  obtain ⟨a, ha⟩ : ∃ a, x.size = a := ⟨_, rfl⟩
  obtain ⟨b, hb⟩ : ∃ b, y.size = b := ⟨_, rfl⟩
  rw [hx] at hbx
  rw [hy] at hby
  have ha4 : u = a + 4 := by rw [← ha, ← bl_len, hbx]; exact hu4
  have hb4 : u' = b + 4 := by rw [← hb, ← bl_len, hby]; exact hu4'
  obtain ⟨t1, t2⟩ := calls_texts hbx hby ha (by omega)
  obtain ⟨z, hz⟩ : ∃ z, strOfNums [(a : Int) + 1] = z := ⟨_, rfl⟩
  rw [hz] at t1
  have zs : z.size = 1 := by rw [← hz, strOfNums_size]; rfl
  have kz : ∀ (W : World) (g : Nat), W.heap.size = g → (convert 25 9 (.slice (some ⟨g, 0, none⟩) 1 1)).run Try.prog (W.alloc (.cells #[.int .u8 ((a : Int) + 1)] 5)) = .ok (.string z) (W.alloc (.cells #[.int .u8 ((a : Int) + 1)] 5)) := fun W g hg => by rw [← hz]; exact k1 W g _ hg
  have hpp := calls_paths (made_sml HMD.out) (made_sml HMD'.out) HMD.out.2.1 HMD'.out.2.1
  rw [← t1, ← t2] at hpp
  have HPP := Lib.hid hpp
  have ua : IntKind.u8.wrap ((a : Int) + 1) = (a : Int) + 1 := by simp only [IntKind.wrap, IntKind.signed, IntKind.bits]; simp; omega
  clear k1 hz hpp t1 t2 hbx hby hu4 hu4'
  have hx' : s.extract 3 (a + 4 - 1) = x := by rw [← hx, ha4]
  have hy' : s'.extract 3 (b + 4 - 1) = y := by rw [← hy, hb4]
  go_wp2_with fail
  go_quiet (fail)
  rw [hx', hy']
  clear hx hy hx' hy'
  have z0 : ({ data := #[2] } : ByteArray).size = 1 := rfl
  have z1 : ({ data := #[9] } : ByteArray).size = 1 := rfl
  have z2 : ({ data := #[3, 139, 8, 9] } : ByteArray).size = 4 := rfl
  have z3 : ({ data := #[140, 8] } : ByteArray).size = 2 := rfl
  have z4 : ({ data := #[139, 8, 10] } : ByteArray).size = 3 := rfl
  have z5 : ({ data := #[0] } : ByteArray).size = 1 := rfl
  have z6 : ({ data := #[10] } : ByteArray).size = 1 := rfl
  have hap := fun a b : ByteArray => ByteArray.size_append (a := a) (b := b)
  have B6 := bdrewN B5 nq
  obtain ⟨w6, hw6⟩ : ∃ w6 : World, w6 = w5.drewN nq := ⟨_, rfl⟩
  rw [← hw6] at B6 ⊢
  clear hw6
  go_wp2_with fail
  have HZ1 : ({ data := #[0] } ++ x ++ y ++ x ++ { data := #[10] } : ByteArray).size ≤ 1000000 := by simp only [hap, z5, z6, ha, hb]; omega
  refine (Run_any _ _ HZ1).mono ?_; rintro e w7 ⟨L, wd, er, A7, n7, c7, rfl, hr7, hn7, hn300, hnc7, hs7, -, hb7⟩
  have hr8 := HPP.out.trans hr7
  have HR7 := Lib.hid hr8
  have HN7 := Lib.hid hn7
  clear hr7 hr8 hn7 HZ1
  go_wp2_with fail
  have HZ2 : ({ data := #[2] } ++ z ++ x ++ { data := #[9] } ++ { data := #[3, 139, 8, 9] } ++ { data := #[140, 8] } ++ y ++ { data := #[139, 8, 10] } : ByteArray).size ≤ 1000000 := by simp only [hap, z0, z1, z2, z3, z4, zs, ha, hb]; omega
  refine (Run_is _ HZ2 HR7.out HN7.out).mono ?_; rintro e w8 ⟨A8, c8, rfl, hs8, hb8⟩
  clear HZ2
  have hee : (er == er) = true := by simp
  have hww : (wd == wd) = true := by simp
  go_wp2_with fail
  refine (sameSg_any _ _ _ _ _ _ L _ (by omega) (hs7.below hb8) hs8).mono ?_; rintro e w9 ⟨rfl, q9, rfl⟩
  go_wp2_with fail
  go_ret
  exact ⟨rfl, bdrewN (btr (btr (bal B6 _) hb7) hb8) _⟩
end Go.Proofs.Ytbpeoejjjllieaa
