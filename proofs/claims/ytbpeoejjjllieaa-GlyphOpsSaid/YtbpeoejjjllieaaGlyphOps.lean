/- The walk of GlyphOps: it returns true. -/
import Derived.Test.YtbpeoejjjllieaaGlyphCode3
import Derived.Test.YtbpeoejjjllieaaGlyphOpsP
namespace Go.Proofs.Ytbpeoejjjllieaa
open Go.RowKit

/-- What lines makes of pairs. -/
def linesN : List Nat → List Nat
  | a :: b :: r => a :: b :: 3 :: linesN r
  | _ => []
theorem linesN_pairs (P : List (Int × Int)) : linesN (bytesP P) = bytesL P := by
  induction P with
  | nil => rfl
  | cons p P ih =>
    have e1 : bytesP (p :: P) = byteV p.1 :: byteV p.2 :: bytesP P := rfl
    have e2 : bytesL (p :: P) = byteV p.1 :: byteV p.2 :: 3 :: bytesL P := rfl
    rw [e1, e2, linesN, ih]
theorem linesN_snoc : ∀ (l : List Nat) (k : Nat), 2 * k + 2 ≤ l.length → linesN (l.take (2 * k + 2)) = linesN (l.take (2 * k)) ++ ((l.drop (2 * k)).take 2 ++ [3])
  | [], k, h => by simp at h
  | [a], k, h => by simp at h
  | a :: b :: l, 0, h => by simp [linesN]
  | a :: b :: l, k + 1, h => by
    have e1 : 2 * (k + 1) + 2 = (2 * k + 2) + 1 + 1 := by omega
    have e2 : 2 * (k + 1) = 2 * k + 1 + 1 := by omega
    rw [e1, e2, List.take_succ_cons, List.take_succ_cons, List.take_succ_cons, List.take_succ_cons, List.drop_succ_cons, List.drop_succ_cons, linesN, linesN, linesN_snoc l k (by simp only [List.length_cons] at h; omega)]
    simp
theorem bl_lit3 : bl { data := #[3] } = [3] := rfl

set_option maxRecDepth 100000 in
theorem lines40_any (s : ByteArray) (m : Nat) (w : World) (hs : s.size = 2 * m) (hm : m ≤ 1000) :
    Calls Try.prog 14 #[.string s] w fun e w' => (∃ t : ByteArray, e = .returned (.string t) ∧ bl t = linesN (bl s) ∧ t.size = 3 * m) ∧ w = w' := by
  go_enter Try.func14, Try.ntmps14
  go_wp2
  go_loopw [3, 4] (fun t i wr => ∃ (k : Nat) (q : ByteArray), k ≤ m ∧ t = .string q ∧ i = .int .i64 ((2 * k : Nat) : Int) ∧ Hid (bl q = linesN ((bl s).take (2 * k))) ∧ q.size = 3 * k ∧ wr = w) (fun _ i _ => 2 * m + 2 - (intOf i).toNat)
  case atStart => exact ⟨0, _, by omega, rfl, rfl, Lib.hid rfl, rfl, rfl⟩
  case round =>
    obtain ⟨k, q, hk, rfl, rfl, hq, hqs, rfl⟩ := hrel
    by_cases hkm : k < m
    · have hlt : ((2 * k : Nat) : Int) + 1 < ((2 * m : Nat) : Int) := by omega
      have hex : (s.extract (2 * k) (2 * k + 2)).size = 2 := by rw [← bl_len, bl_mid, List.length_take, List.length_drop, bl_len, hs]; omega
      have H1 := Lib.hid (show bl (q ++ s.extract (2 * k) (2 * k + 2) ++ { data := #[3] }) = linesN ((bl s).take (2 * (k + 1))) by
        rw [bl_add, bl_add, hq.out, bl_mid, bl_lit3, show 2 * (k + 1) = 2 * k + 2 by omega, linesN_snoc _ _ (by rw [bl_len, hs]; omega), List.append_assoc, show 2 * k + 2 - 2 * k = 2 by omega])
      have H2 : (q ++ s.extract (2 * k) (2 * k + 2) ++ { data := #[3] }).size = 3 * (k + 1) := by
        rw [ByteArray.size_append, ByteArray.size_append, hex, hqs, show ({ data := #[3] } : ByteArray).size = 1 from rfl]; omega
      go_wp2
      exact ⟨⟨k + 1, _, by omega, rfl, by go_num, H1, H2, trivial⟩, by simp [intOf]; omega⟩
    · obtain rfl : k = m := by omega
      have H1 := Lib.hid (show bl q = linesN (bl s) by rw [hq.out, List.take_of_length_le (by rw [bl_len, hs]; omega)])
      go_wp2
      go_ret
      exact ⟨⟨q, rfl, H1.out, hqs⟩, rfl⟩
def GL (xs : List Int) (W : World) : World := W.alloc (.cells (xs.map (Value.int .u8)).toArray 5)
theorem bl_lit10 : bl { data := #[10] } = [10] := rfl
theorem bl_lit11 : bl { data := #[11] } = [11] := rfl
theorem bl_lit0 : bl { data := #[0, 139, 139, 2] } = [0, 139, 139, 2] := rfl
theorem bytesA_snoc (P : List (Int × Int)) (p : Int × Int) : bytesA (P ++ [p]) = bytesA P ++ [byteV p.1, 5, byteV p.2, 6, byteV p.1, byteV p.2, 3] := by simp [bytesA]
theorem bytesB_snoc (P : List (Int × Int)) (p : Int × Int) : bytesB (P ++ [p]) = bytesB P ++ [byteV p.1, 139, 3, 139, byteV p.2, 3, byteV p.1, byteV p.2, 3] := by simp [bytesB]
theorem bytesP_snoc (P : List (Int × Int)) (p : Int × Int) : bytesP (P ++ [p]) = bytesP P ++ [byteV p.1, byteV p.2] := by simp [bytesP]
/-- What is held of the three texts. -/
structure Txt (P : List (Int × Int)) (m : Nat) (a b q : ByteArray) : Prop where
  a : bl a = [0, 139, 139, 2] ++ bytesA P
  b : bl b = [0, 139, 139, 2] ++ bytesB P
  q : bl q = bytesP P
  small : ∀ p ∈ P, Small p
  len : P.length = m
theorem Txt.sizes {P : List (Int × Int)} {m : Nat} {a b q : ByteArray} (h : Txt P m a b q) : a.size = 4 + 7 * m ∧ b.size = 4 + 9 * m ∧ q.size = 2 * m := by
  have la : (bytesA P).length = 7 * P.length := flat_len P _ 7 fun _ => rfl
  have lb : (bytesB P).length = 9 * P.length := flat_len P _ 9 fun _ => rfl
  have lp : (bytesP P).length = 2 * P.length := flat_len P _ 2 fun _ => rfl
  have hl := h.len
  refine ⟨?_, ?_, ?_⟩
  · rw [← bl_len, h.a, List.length_append, la, hl]; rfl
  · rw [← bl_len, h.b, List.length_append, lb, hl]; rfl
  · rw [← bl_len, h.q, lp, hl]
theorem Txt.snoc {P : List (Int × Int)} {m : Nat} {a b q : ByteArray} (h : Txt P m a b q) {x y : Int} (hx : 0 ≤ x ∧ x < 60) (hy : 0 ≤ y ∧ y < 60) :
    Txt (P ++ [(x - 30, y - 30)]) (m + 1) (a ++ strOfNums [109 + x, 5, 109 + y, 6, 109 + x, 109 + y, 3]) (b ++ strOfNums [109 + x, 139, 3, 139, 109 + y, 3, 109 + x, 109 + y, 3]) (q ++ strOfNums [109 + x, 109 + y]) := by
  have ex : (109 + x).toNat = byteV (x - 30) := by unfold byteV; congr 1; omega
  have ey : (109 + y).toNat = byteV (y - 30) := by unfold byteV; congr 1; omega
  refine ⟨?_, ?_, ?_, ?_, by rw [List.length_append, h.len]; rfl⟩
  · rw [bl_add, h.a, bytesA_snoc, bl_nums (by intro z hz; simp only [List.mem_cons, List.not_mem_nil, or_false] at hz; omega)]
    simp [ex, ey]
  · rw [bl_add, h.b, bytesB_snoc, bl_nums (by intro z hz; simp only [List.mem_cons, List.not_mem_nil, or_false] at hz; omega)]
    simp [ex, ey]
  · rw [bl_add, h.q, bytesP_snoc, bl_nums (by intro z hz; simp only [List.mem_cons, List.not_mem_nil, or_false] at hz; omega)]
    simp [ex, ey]
  · intro p hp
    rcases List.mem_append.1 hp with hp | hp
    · exact h.small p hp
    · obtain rfl := List.mem_singleton.1 hp
      unfold Small; simp only; omega
theorem Txt.progs {P : List (Int × Int)} {m : Nat} {a b q t : ByteArray} (h : Txt P m a b q) (hm : 0 < m) (hm10 : m ≤ 10) (ht : bl t = linesN (bl q)) :
    ∃ L : List Sg, RunG (bl (a ++ q ++ { data := #[11] } ++ { data := #[10] })) = ((L, 0), 0) ∧ RunG (bl (b ++ t ++ { data := #[10] })) = ((L, 0), 0) ∧ L.length = 1 + 4 * m ∧
      (a ++ q ++ { data := #[11] } ++ { data := #[10] }).size ≤ 1000000 ∧ (b ++ t ++ { data := #[10] }).size ≤ 1000000 := by
  have hP : P ≠ [] := by rintro rfl; have := h.len; simp at this; omega
  obtain ⟨L, h1, h2, h3⟩ := ops_law P h.small (by rw [h.len]; exact hm10)
  have la : (bytesA P).length = 7 * P.length := flat_len P _ 7 fun _ => rfl
  have lb : (bytesB P).length = 9 * P.length := flat_len P _ 9 fun _ => rfl
  have lp : (bytesP P).length = 2 * P.length := flat_len P _ 2 fun _ => rfl
  have ll : (bytesL P).length = 3 * P.length := flat_len P _ 3 fun _ => rfl
  have ea : bl (a ++ q ++ { data := #[11] } ++ { data := #[10] }) = progA P := by
    rw [bl_add, bl_add, bl_add, h.a, h.q, bl_lit10, bl_lit11]; unfold progA; rw [if_neg hP]; simp
  have eb : bl (b ++ t ++ { data := #[10] }) = progB P := by
    rw [bl_add, bl_add, h.b, ht, h.q, linesN_pairs, bl_lit10]; unfold progB; rw [if_neg hP]; simp
  have hl := h.len
  refine ⟨L, by rw [ea]; exact h1, by rw [eb]; exact h2, by rw [h3, h.len], ?_, ?_⟩
  · rw [← bl_len, ea]; unfold progA; rw [if_neg hP]; simp only [List.length_cons, List.length_append, List.length_nil, la, lp]; omega
  · rw [← bl_len, eb]; unfold progB; rw [if_neg hP]; simp only [List.length_cons, List.length_append, List.length_nil, lb, ll]; omega
theorem Txt.none {P : List (Int × Int)} {a b q : ByteArray} (h : Txt P 0 a b q) :
    RunG (bl (a ++ { data := #[10] })) = (([⟨1, 0, 0, 0, 0⟩], 0), 0) ∧ RunG (bl (b ++ { data := #[10] })) = (([⟨1, 0, 0, 0, 0⟩], 0), 0) ∧ (a ++ { data := #[10] }).size ≤ 1000000 ∧ (b ++ { data := #[10] }).size ≤ 1000000 := by
  have hP : P = [] := List.eq_nil_of_length_eq_zero h.len
  subst hP
  have ea : bl (a ++ { data := #[10] }) = [0, 139, 139, 2, 10] := by rw [bl_add, h.a, bl_lit10]; rfl
  have eb : bl (b ++ { data := #[10] }) = [0, 139, 139, 2, 10] := by rw [bl_add, h.b, bl_lit10]; rfl
  refine ⟨by rw [ea]; decide +kernel, by rw [eb]; decide +kernel, by rw [← bl_len, ea]; simp, by rw [← bl_len, eb]; simp⟩
theorem litW7 (W : World) (g : Nat) (a b c d e f h : Int) (hg : W.heap.size = g) : (convert 25 9 (.slice (some ⟨g, 0, none⟩) 7 7)).run Try.prog (W.alloc (.cells #[.int .u8 a, .int .u8 b, .int .u8 c, .int .u8 d, .int .u8 e, .int .u8 f, .int .u8 h] 5)) = .ok (.string (strOfNums [a, b, c, d, e, f, h])) (W.alloc (.cells #[.int .u8 a, .int .u8 b, .int .u8 c, .int .u8 d, .int .u8 e, .int .u8 f, .int .u8 h] 5)) := by subst hg; exact lit_str W [a, b, c, d, e, f, h] 7 rfl
theorem litW9 (W : World) (g : Nat) (a b c d e f h i j : Int) (hg : W.heap.size = g) : (convert 25 9 (.slice (some ⟨g, 0, none⟩) 9 9)).run Try.prog (W.alloc (.cells #[.int .u8 a, .int .u8 b, .int .u8 c, .int .u8 d, .int .u8 e, .int .u8 f, .int .u8 h, .int .u8 i, .int .u8 j] 5)) = .ok (.string (strOfNums [a, b, c, d, e, f, h, i, j])) (W.alloc (.cells #[.int .u8 a, .int .u8 b, .int .u8 c, .int .u8 d, .int .u8 e, .int .u8 f, .int .u8 h, .int .u8 i, .int .u8 j] 5)) := by subst hg; exact lit_str W [a, b, c, d, e, f, h, i, j] 9 rfl
theorem litW2 (W : World) (g : Nat) (a b : Int) (hg : W.heap.size = g) : (convert 25 9 (.slice (some ⟨g, 0, none⟩) 2 2)).run Try.prog (W.alloc (.cells #[.int .u8 a, .int .u8 b] 5)) = .ok (.string (strOfNums [a, b])) (W.alloc (.cells #[.int .u8 a, .int .u8 b] 5)) := by subst hg; exact lit_str W [a, b] 2 rfl

set_option maxRecDepth 100000 in
set_option maxHeartbeats 4000000 in
theorem GlyphOps_any (A : Option Addr) (n c : Nat) (w : World) (h : InA w A n) (hnc : n ≤ c) (hcm : c ≤ 9223372036854775807) :
    Calls Try.prog 4 #[.slice A n c] w fun e w' => e = .returned (.bool true) ∧ Below w.heap.size w w' := by
  have k7 := litW7
  have k9 := litW9
  have k2 := litW2
  go_enter Try.func4, Try.ntmps4
  go_wp2_with fail
  refine (known40_any _).mono ?_; rintro e w1 ⟨rfl, hb1⟩
  have hLN : LN (w1.alloc (.cells #[.slice A n c] 37)) w1.heap.size := LN_new (h.below hb1) hnc hcm rfl
  have hbL : Below w1.heap.size w1 (w1.alloc (.cells #[.slice A n c] 37)) := bal (Below.refl _ _) _
  have hT0 : Txt [] 0 { data := #[0, 139, 139, 2] } { data := #[0, 139, 139, 2] } { data := #[] } := ⟨rfl, rfl, rfl, by simp, rfl⟩
  go_wp2
  go_loopw [4, 5, 6, 7] (fun s4 s5 s6 s7 wr => ∃ (P : List (Int × Int)) (m : Nat) (a b q : ByteArray), m ≤ 10 ∧ s4 = .string a ∧ s5 = .string b ∧ s6 = .string q ∧ s7 = .int .i64 (m : Int) ∧ Hid (Txt P m a b q) ∧ LN wr w1.heap.size ∧ Below w1.heap.size w1 wr) (fun _ _ _ s7 _ => 10 - (intOf s7).toNat)
  case atStart => exact ⟨[], 0, _, _, _, by omega, rfl, rfl, rfl, rfl, hT0, hLN, hbL⟩
  case round =>
    obtain ⟨P, m, a, b, q, hm, rfl, rfl, rfl, rfl, hT, hN, hbr⟩ := hrel
    clear hLN hbL hT0
    have HN := Lib.hid hN
    obtain ⟨A9, n9, c9, hc9, _, hn9, hc99, _, _⟩ := hN
    obtain ⟨hsa, hsb, hsz⟩ := hT.out.sizes
    have ks := strOfNums_size
    have ha := fun a b : ByteArray => ByteArray.size_append (a := a) (b := b)
    have hs0 : ({ data := #[10] } : ByteArray).size = 1 := rfl
    have hs1 : ({ data := #[11] } : ByteArray).size = 1 := rfl
    have u8 : ∀ z : Int, 0 ≤ z ∧ z < 60 → IntKind.u8.wrap (109 + z) = 109 + z := fun z hz => by simp only [IntKind.wrap, IntKind.signed, IntKind.bits]; simp; omega
    by_cases hgo : 0 < n9 ∧ m < 10
    · have d1 : decide ((n9 : Int) > 0) = true := by simp; omega
      have d2 : decide ((m : Int) < 10) = true := by simp; omega
      clear hn9 hc99
      go_wp2_with fail
      refine (Next_any _ 60 _ (by omega) HN.out).mono ?_; rintro e w2 ⟨⟨x, rfl, hx1, hx2⟩, hN2, hg2⟩
      have B2 : Below w1.heap.size w1 w2 := hbr.grown hg2 hbr.size fun k hk => by cases hk; exact Nat.le_refl _
      have ux := u8 x ⟨hx1, hx2⟩
      clear hbr hg2 hc9 HN
      go_wp2_with fail
      refine (Next_any _ 60 _ (by omega) hN2).mono ?_; rintro e w3 ⟨⟨y, rfl, hy1, hy2⟩, hN3, hg3⟩
      have B3 : Below w1.heap.size w1 w3 := B2.grown hg3 B2.size fun k hk => by cases hk; exact Nat.le_refl _
      have uy := u8 y ⟨hy1, hy2⟩
      have HT := Lib.hid (hT.out.snoc (x := x) (y := y) ⟨hx1, hx2⟩ ⟨hy1, hy2⟩)
      clear B2 hg3 hN2 u8 hT
      go_wp2
      exact ⟨⟨_, m + 1, _, _, _, by omega, rfl, rfl, rfl, by go_num, HT, LN_alloc (LN_alloc (LN_alloc hN3 _) _) _, bal (bal (bal B3 _) _) _⟩, by simp [intOf]; omega⟩
    · by_cases hm0 : m = 0
      · subst hm0
        obtain rfl : n9 = 0 := by omega
        obtain ⟨g1, g2, g3, g4⟩ := hT.out.none
        have G1 := Lib.hid g1
        have G2 := Lib.hid g2
        have G3 := Lib.hid g3
        have G4 := Lib.hid g4
        clear g1 g2 g3 g4 hn9 hc99 u8 hsz
        go_wp2_with fail
        refine (Run_is (n := 1) _ G3.out G1.out rfl).mono ?_; rintro e w4 ⟨A4, c4, rfl, hs4, hb4⟩
        go_wp2_with fail
        refine (Run_is (n := 1) _ G4.out G2.out rfl).mono ?_; rintro e w5 ⟨A5, c5, rfl, hs5, hb5⟩
        go_wp2_with fail
        refine (sameSg_any _ _ _ _ _ _ [⟨1, 0, 0, 0, 0⟩] _ (by omega) (hs4.below hb5) hs5).mono ?_; rintro e w6 ⟨rfl, q6, rfl⟩
        go_wp2_with fail
        go_ret
        exact ⟨rfl, bdrewN (btr hb1 (btr (btr hbr hb4) hb5)) _⟩
      · have dm : decide ((m : Int) > 0) = true := by simp; omega
        have hd : n9 = 0 ∨ (0 < n9 ∧ m = 10) := by omega
        have HT := fun t ht => hT.out.progs (t := t) (by omega) hm ht
        have HTH := Lib.hid HT
        clear hT HT hn9 hc99 u8 hgo
        rcases hd with rfl | ⟨d1, rfl⟩
        · go_wp2_with fail
          refine (lines40_any q m _ hsz (by omega)).mono ?_; rintro e w4 ⟨⟨t, rfl, ht, hts⟩, rfl⟩
          obtain ⟨L, g1, g2, g3, g4, g5⟩ := HTH.out t ht
          have G1 := Lib.hid g1
          have G2 := Lib.hid g2
          have G3 := Lib.hid g3
          have G4 := Lib.hid g4
          have G5 := Lib.hid g5
          clear g1 g2 g3 g4 g5 ht
          go_wp2_with fail
          refine (Run_is (n := 1 + 4 * m) _ G4.out G1.out G3.out).mono ?_; rintro e w5 ⟨A5, c5, rfl, hs5, hb5⟩
          go_wp2_with fail
          refine (Run_is (n := 1 + 4 * m) _ G5.out G2.out G3.out).mono ?_; rintro e w6 ⟨A6, c6, rfl, hs6, hb6⟩
          go_wp2_with fail
          refine (sameSg_any _ _ _ _ _ _ L _ (by omega) (hs5.below hb6) hs6).mono ?_; rintro e w7 ⟨rfl, q7, rfl⟩
          go_wp2_with fail
          go_ret
          exact ⟨by simp, bdrewN (btr hb1 (btr (btr hbr hb5) hb6)) _⟩
        · go_wp2_with fail
          refine (lines40_any q 10 _ hsz (by omega)).mono ?_; rintro e w4 ⟨⟨t, rfl, ht, hts⟩, rfl⟩
          obtain ⟨L, g1, g2, g3, g4, g5⟩ := HTH.out t ht
          have G1 := Lib.hid g1
          have G2 := Lib.hid g2
          have G3 := Lib.hid g3
          have G4 := Lib.hid g4
          have G5 := Lib.hid g5
          clear g1 g2 g3 g4 g5 ht
          go_wp2_with fail
          refine (Run_is (n := 41) _ G4.out G1.out G3.out).mono ?_; rintro e w5 ⟨A5, c5, rfl, hs5, hb5⟩
          go_wp2_with fail
          refine (Run_is (n := 41) _ G5.out G2.out G3.out).mono ?_; rintro e w6 ⟨A6, c6, rfl, hs6, hb6⟩
          go_wp2_with fail
          refine (sameSg_any _ _ _ _ _ _ L _ (by omega) (hs5.below hb6) hs6).mono ?_; rintro e w7 ⟨rfl, q7, rfl⟩
          go_wp2_with fail
          go_ret
          exact ⟨by simp, bdrewN (btr hb1 (btr (btr hbr hb5) hb6)) _⟩
end Go.Proofs.Ytbpeoejjjllieaa
