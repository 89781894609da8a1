/- The walk of PathLimits: it returns true. -/
import Derived.Test.YtpompbpdhahljaaKnown25
import Derived.Test.YtpompbpdhahljaaFlat
import Derived.Test.YtpompbpdhahljaaMade
import Derived.Test.YtpompbpdhahljaaLimitP
namespace Go.Proofs.Ytpompbpdhahljaa
open Go.RowKit

/-- Append, at a guarded operation that is wanted. -/
theorem wpList_app_g {P : Program} {ops : Array Oper} {rest : List Oper} {o : Oper} {a : Act} {w : World} {Q : Exit → Act → World → Prop} (hgd : Region.wanted o (yielded ops a.tmps) = true) (s x : Operand) (t : TypeId)
    (ho : o.op = .call { callee := .builtin .append, args := #[s, x], argTypes := #[t, t] }) (base : Nat) {e : TypeId} {size bytes : Nat} (T : SlT P t e size bytes)
    {A : Option Addr} {n c : Nat} {xs : List Value} (hs : a.eval s = .slice A n c) (hown : w.ownsRow base e size (.slice A n c) n xs)
    {X : Option Addr} {m cx : Nat} (news : List Value) (hx : a.eval x = .slice X m cx) (hr : Sl w size X m news) (h1 : ∀ u ∈ news, u.oneCell' = true) (hsm : n + m ≤ 1000000) (hbase : base ≤ w.heap.size)
    (h : ∀ A' c' w', w'.ownsRow base e size (.slice A' (n + m) c') (n + m) (xs ++ news) → w.grownBy w' (Value.ownBlock (.slice A n c)) →
      ((Value.slice A' (n + m) c').ownBlock = (Value.slice A n c).ownBlock ∨ (Value.slice A' (n + m) c').ownBlock = some w.heap.size) → wpList P ops Q rest (a.put o.dst (.slice A' (n + m) c')) w') :
    wpList P ops Q (o :: rest) a w :=
  wpList_step fun K hK => by
    rw [if_pos hgd]
    exact wp_app s x t ho base T hs hown news hx hr h1 hsm hbase fun A' c' w' h2 h3 h4 => hK _ _ (h A' c' w' h2 h3 h4)

set_option maxRecDepth 100000 in
set_option maxHeartbeats 8000000 in
theorem PathLimits_any (n x y : Int) (w : World) :
    Calls Try.prog 13 #[.int .i64 n, .int .i64 x, .int .i64 y] w fun e w' => e = .returned (.bool true) ∧ Below w.heap.size w w' := by
  go_enter Try.func13, Try.ntmps13
  go_wp2_with fail
  refine (known25_any _).mono ?_; rintro e w1 ⟨rfl, B1⟩
  go_wp2_with fail
  refine (Place_any n 3 _ (by omega) (by omega)).mono ?_
  rintro e w2 ⟨rfl, rfl⟩
  obtain ⟨pn, hpn⟩ : ∃ v, v = placeI n 3 := ⟨_, rfl⟩
  obtain ⟨px, hpx⟩ : ∃ v, v = placeI x 100 := ⟨_, rfl⟩
  obtain ⟨py, hpy⟩ : ∃ v, v = placeI y 100 := ⟨_, rfl⟩
  have hpnb : 0 ≤ pn ∧ pn < 3 := by rw [hpn]; exact placeI_range n 3 (by omega)
  have hpxb : 0 ≤ px ∧ px < 100 := by rw [hpx]; exact placeI_range x 100 (by omega)
  have hpyb : 0 ≤ py ∧ py < 100 := by rw [hpy]; exact placeI_range y 100 (by omega)
  rw [← hpn]
  obtain ⟨K, hK⟩ : ∃ K : Nat, 297 + pn = (K : Int) := ⟨(297 + pn).toNat, by omega⟩
  obtain ⟨hK1, hK2⟩ : 297 ≤ K ∧ K ≤ 299 := by omega
  have HPX := Lib.hid hpx
  have HPY := Lib.hid hpy
  clear hpn hpx hpy hpnb
  go_wp2_with fail
  have hown1 := own_new (w := w1) (t := 45) (n := 1) (s := 5) (base := w1.heap.size) (sgs [⟨1, 0, 0, 0, 0⟩]) rfl rfl (Nat.le_refl _) (by omega)
  have b1 : Below w1.heap.size w1 (w1.alloc (.cells (sgs [⟨1, 0, 0, 0, 0⟩]).toArray 45)) := bal (Below.refl _ _) _
  go_loopw [8] (fun s wr => ∃ l A c i, s = .slice A i c ∧ 1 ≤ i ∧ i ≤ K ∧ Hid (Lines1 l ∧ l.length = i) ∧ wr.ownsRow w1.heap.size 45 5 (.slice A i c) i (sgs l) ∧ Below w1.heap.size w1 wr) (fun s _ => K - lenOf s)
  case atStart => exact ⟨[⟨1, 0, 0, 0, 0⟩], _, _, 1, rfl, by omega, by omega, Lib.hid (And.intro Lines1.one rfl), hown1, b1⟩
  case round =>
    obtain ⟨l, A1, c1, i, rfl, hi1, hiK, hl, hown, hb⟩ := hrel
    clear hown1 b1
    by_cases hlt : i < K
    · have hl2 := Lib.hid (show Lines1 (l ++ [⟨2, (i : Int), 1, 0, 0⟩]) ∧ (l ++ [(⟨2, (i : Int), 1, 0, 0⟩ : Sg)]).length = i + 1 from ⟨hl.out.1.snoc (by omega) (by omega), by rw [List.length_append, hl.out.2]; rfl⟩)
      go_wp2_with (at_builtin; refine wpList_app rfl _ _ 35 rfl w1.heap.size sgT rfl (own_below hown (bal (Below.refl _ _) _)) (sgc ⟨2, (i : Int), 1, 0, 0⟩) rfl (sl_newN _ rfl rfl) (oneCell_sgc _) (by omega) (bal hb _).size ?_; intro A2 c2 w2 hown2 hg2 hat2)
      go_roundw
      case rel => exact ⟨l ++ [⟨2, (i : Int), 1, 0, 0⟩], A2, c2, i + 1, rfl, by omega, by omega, hl2, by rw [sgs_app, sgs_one]; exact hown2, grown_below (bal hb _) hg2 (own_below hown (bal (Below.refl _ _) _))⟩
      case measure => simp [lenOf]; omega
    · obtain rfl : i = K := by omega
      have B2 : Below w.heap.size w wr := btr B1 hb
      have hs2 := own_sl hown
      have hcap := own_cap hown
      clear hown hb hK
      generalize wr = w3 at *
      go_wp2_with fail
      go_loopw [8, 9, 10] (fun s er ii wi => ∃ l A c i, s = .slice A i c ∧ er = .int .i64 0 ∧ ii = .int .i64 (i : Int) ∧ 297 ≤ i ∧ i ≤ 300 ∧ i ≤ c ∧ Hid (Lines1 l ∧ l.length = i) ∧ Sl wi 5 A i (sgs l) ∧ Below w.heap.size w wi) (fun _ _ ii _ => 300 - (intOf ii).toNat)
      case atStart => exact ⟨l, A1, c1, i, rfl, rfl, rfl, by omega, by omega, hcap, hl, hs2, B2⟩
      case round =>
        obtain ⟨m, A3, c3, j, rfl, rfl, rfl, hj1, hj2, hcap3, hm, hs3, B3⟩ := hrel
        clear hs2 B2 hl
        by_cases hlt2 : j < 300
        · obtain ⟨M, hM⟩ : ∃ M, M = m ++ [⟨2, px, (j : Int), 0, 0⟩] := ⟨_, rfl⟩
          have hMl : M.length = j + 1 := by rw [hM, List.length_append, hm.out.2]; rfl
          have hon : onL m ⟨2, px, (j : Int), 0, 0⟩ = (M, 0) := by
            rw [hm.out.1.on (by rw [hm.out.2]; omega) (by omega) (by omega), longL_ok (by rw [hm.out.2]; simp; omega), hM]
          have hm2 := Lib.hid (show Lines1 M ∧ M.length = j + 1 from ⟨by rw [hM]; exact hm.out.1.snoc (by omega) (by omega), hMl⟩)
          have HON := Lib.hid hon
          clear hon hM
          go_wp2_with fail
          refine (Place_any x 100 _ (by omega) (by omega)).mono ?_
          rintro e w4 ⟨rfl, rfl⟩
          rw [← HPX.out]
          go_wp2_with fail
          refine (Line_any _ _ _ _ _ m _ _ (by omega) hs3 HON.out).mono ?_; rintro e w5 ⟨A5, c5, rfl, hown5, hb5⟩
          have hs5 := own_sl hown5
          have hcap5 := own_cap hown5
          rw [hMl] at hs5 hcap5 ⊢
          clear hown5 hMl
          go_wp2_with fail
          go_roundw
          case rel => exact ⟨M, A5, c5, j + 1, rfl, rfl, by go_num, by omega, by omega, hcap5, hm2, hs5, btr B3 hb5⟩
          case measure => simp [intOf]; omega
        · obtain rfl : j = 300 := by omega
          have HO1 := Lib.hid (show onL m ⟨2, 0, 0, 0, 0⟩ = ([], 5) by rw [hm.out.1.on (by rw [hm.out.2]; omega) (by omega) (by omega), longL_over (by rw [hm.out.2]; simp)])
          have HO2 := Lib.hid (hm.out.1.shut hm.out.2)
          have HO3 := Lib.hid (hm.out.1.start hm.out.2 (x := py) (by omega))
          have HO4 := Lib.hid (hm.out.1.far (by rw [hm.out.2]; omega))
          have HO5 := Lib.hid (hm.out.1.join hm.out.2 corner_may (by decide))
          have HMY := Lib.hid (hm.out.1.may (by rw [hm.out.2]; omega))
          have HNO := Lib.hid (show mayB (m ++ [⟨4, 0, 0, 0, 0⟩]) = false from may_long (by rw [List.length_append, hm.out.2]; decide))
          clear hj1 hj2 hlt2
          go_wp2_with fail
          refine (Line_any _ _ _ _ _ m _ _ (by omega) hs3 HO1.out).mono ?_; rintro e w4 ⟨A4, c4, rfl, -, hb4⟩
          have hs4 := hs3.below hb4
          have B4 := btr B3 hb4
          clear hs3 hb4 B3
          go_wp2_with fail
          refine (Shut_any _ _ _ m _ _ (by omega) hs4 HO2.out).mono ?_; rintro e w5 ⟨A5, c5, rfl, -, hb5⟩
          have hs5 := hs4.below hb5
          have B5 := btr B4 hb5
          clear hs4 hb5 B4
          go_wp2_with fail
          refine (Place_any y 100 _ (by omega) (by omega)).mono ?_
          rintro e w6 ⟨rfl, rfl⟩
          rw [← HPY.out]
          go_wp2_with fail
          refine (Start_any _ _ _ _ _ m _ _ (by omega) hcap3 hs5 HO3.out).mono ?_; rintro e w7 ⟨A7, c7, rfl, -, hb7⟩
          have hs7 := hs5.below hb7
          have B7 := btr B5 hb7
          clear hs5 hb7 B5
          go_wp2_with fail
          refine (Line_any _ _ _ _ _ m _ _ (by omega) hs7 HO4.out).mono ?_; rintro e w8 ⟨A8, c8, rfl, -, hb8⟩
          have hs8 := hs7.below hb8
          have B8 := btr B7 hb8
          clear hs7 hb8 B7
          go_wp2_with fail
          refine (corner_any _).mono ?_; rintro e w9 ⟨A9, c9, rfl, hc9, hk9, hb9⟩
          have hs9 := hs8.below hb9
          have B9 := btr B8 hb9
          clear hs8 hb9 B8
          go_wp2_with fail
          refine (Join_any _ _ _ _ _ _ m cornerL _ _ (by omega) (by omega) hcap3 hs9 hk9 HO5.out).mono ?_; rintro e w10 ⟨A10, c10, rfl, -, hb10⟩
          have hs10 := hs9.below hb10
          have B10 := btr B9 hb10
          clear hs9 hb10 B9 hk9
          go_wp2_with fail
          refine (path_May_any _ _ _ m _ (by omega) hs10).mono ?_; rintro e w11 ⟨rfl, hb11⟩
          rw [HMY.out]
          have hs11 := hs10.below hb11
          have B11 := btr B10 hb11
          clear hs10 hb11 B10
          have hr0 := own_new (w := w11) (t := 45) (n := 0) (s := 5) (base := w11.heap.size) [] rfl rfl (Nat.le_refl _) (by omega)
          have b0 : Below w11.heap.size w11 (w11.alloc (.cells #[] 45)) := bal (Below.refl _ _) _
          go_wp2_with (first
            | (at_builtin; refine wpList_app_g (by kernel_rfl) _ _ 35 rfl w11.heap.size sgT rfl hr0 (sgs m) rfl (hs11.below b0) (oneCell_sgs _) (by omega) b0.size ?_; intro A12 c12 w12 hown12 hg12 hat12; have b12 := grown_below b0 hg12 hr0; rw [Nat.zero_add] at hown12)
            | (at_builtin; refine wpList_app_g (by kernel_rfl) _ _ 35 rfl w11.heap.size sgT rfl (own_below hown12 (bal (Below.refl _ _) _)) (sgc ⟨4, 0, 0, 0, 0⟩) rfl (sl_newN _ rfl rfl) (oneCell_sgc _) (by omega) (bal b12 _).size ?_; intro A13 c13 w13 hown13 hg13 hat13; have b13 := grown_below (bal b12 _) hg13 (own_below hown12 (bal (Below.refl _ _) _))))
          have hs13 : Sl w13 5 A13 301 (sgs (m ++ [⟨4, 0, 0, 0, 0⟩])) := by rw [sgs_app, sgs_one]; exact own_sl hown13
          refine (path_May_any _ _ _ (m ++ [⟨4, 0, 0, 0, 0⟩]) _ (by omega) hs13).mono ?_; rintro e w14 ⟨rfl, hb14⟩
          rw [HNO.out]
          go_wp2
          go_ret
          exact ⟨rfl, btr (btr B11 b13) hb14⟩
end Go.Proofs.Ytpompbpdhahljaa
