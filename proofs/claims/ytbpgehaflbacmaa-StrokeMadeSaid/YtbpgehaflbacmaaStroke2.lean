/- What shapes cover: the three methods, and covered. -/
import Derived.Test.YtbpgehaflbacmaaStroke1
namespace Go.Proofs.Ytbpgehaflbacmaa
open Go.RowKit

/-- A shape as an interface's value. -/
def shv : Shp → Value
  | .pc e w f l => .iface 80 (.agg #[.int .i64 e.x0, .int .i64 e.y0, .bool e.bent, .int .i64 e.cx, .int .i64 e.cy, .int .i64 e.x1, .int .i64 e.y1, .int .i64 w, .bool f, .bool l])
  | .disc a b w => .iface 82 (.agg #[.int .i64 a, .int .i64 b, .int .i64 w])
  | .sq a b w => .iface 85 (.agg #[.int .i64 a, .int .i64 b, .int .i64 w])
def WideOK (w : Int) : Prop := 0 ≤ w ∧ w ≤ 2048
def ShOK : Shp → Prop
  | .pc e w _ _ => edOK e = true ∧ WideOK w
  | .disc a b w => co a = true ∧ co b = true ∧ WideOK w
  | .sq a b w => co a = true ∧ co b = true ∧ WideOK w

theorem mul_pm {a b A : Int} (ha : -A ≤ a ∧ a ≤ A) (hb : -A ≤ b ∧ b ≤ A) : -(A * A) ≤ a * b ∧ a * b ≤ A * A := by
  have h1 : (a + b) * (a + b) = a * a + b * b + 2 * (a * b) := by grind
  have h2 : (a - b) * (a - b) = a * a + b * b - 2 * (a * b) := by grind
  have h3 := sq_bd ha
  have h4 := sq_bd hb
  have h5 : 0 ≤ (a + b) * (a + b) := by
    rcases Int.le_total 0 (a + b) with h | h
    · exact Int.mul_nonneg h h
    · exact Int.mul_nonneg_of_nonpos_of_nonpos h h
  have h6 : 0 ≤ (a - b) * (a - b) := by
    rcases Int.le_total 0 (a - b) with h | h
    · exact Int.mul_nonneg h h
    · exact Int.mul_nonneg_of_nonpos_of_nonpos h h
  omega

set_option maxHeartbeats 1000000 in
theorem disc_covers_any (a b wd x y : Int) (w : World) (ha : co a = true) (hb : co b = true) (hw : WideOK wd) (hx : co x = true) (hy : co y = true) :
    Calls Try.prog 78 #[.agg #[.int .i64 a, .int .i64 b, .int .i64 wd], .int .i64 x, .int .i64 y] w fun e w' => e = .returned (.bool (decide (DiscP a b wd x y))) ∧ Below w.heap.size w w' := by
  rw [co_iff] at ha hb hx hy
  obtain ⟨hw0, hw1⟩ := hw
  obtain ⟨vx, hvx⟩ : ∃ v, v = x - a := ⟨_, rfl⟩
  obtain ⟨vy, hvy⟩ : ∃ v, v = y - b := ⟨_, rfl⟩
  have b1 := sq_bd (a := vx) (A := 16382) (by omega)
  have b2 := sq_bd (a := vy) (A := 16382) (by omega)
  have b3 := sq_bd (a := wd) (A := 2048) (by omega)
  obtain ⟨X, hX⟩ : ∃ X, X = vx * vx := ⟨_, rfl⟩
  obtain ⟨Y, hY⟩ : ∃ Y, Y = vy * vy := ⟨_, rfl⟩
  obtain ⟨W, hW⟩ : ∃ W, W = wd * wd := ⟨_, rfl⟩
  rw [← hX] at b1
  rw [← hY] at b2
  rw [← hW] at b3
  have hP : decide (DiscP a b wd x y) = decide (4 * (X + Y) ≤ W) := by unfold DiscP; rw [hX, hY, hW, hvx, hvy]
  rw [hP]
  clear hP
  obtain ⟨a0, a1⟩ := ha
  obtain ⟨b0, b4⟩ := hb
  obtain ⟨x0, x1⟩ := hx
  obtain ⟨y0, y1⟩ := hy
  have v0 : -16382 ≤ vx ∧ vx ≤ 16382 := by omega
  have v1 : -16382 ≤ vy ∧ vy ≤ 16382 := by omega
  obtain ⟨v00, v01⟩ := v0
  obtain ⟨v10, v11⟩ := v1
  replace hvx := hvx.symm
  replace hvy := hvy.symm
  replace hX := hX.symm
  replace hY := hY.symm
  replace hW := hW.symm
  have hB := bal (Below.refl w.heap.size w) (.cells #[.int .i64 a, .int .i64 b, .int .i64 wd] 82)
  go_enter Try.func78, Try.ntmps78
  go_wp2
  go_quiet (fail)
  go_wp2
  go_ret
  exact ⟨rfl, bdrewN hB _⟩

set_option maxHeartbeats 1000000 in
theorem square_covers_any (a b wd x y : Int) (w : World) (ha : co a = true) (hb : co b = true) (hw : WideOK wd) (hx : co x = true) (hy : co y = true) :
    Calls Try.prog 79 #[.agg #[.int .i64 a, .int .i64 b, .int .i64 wd], .int .i64 x, .int .i64 y] w fun e w' => e = .returned (.bool (decide (SquareP a b wd x y))) ∧ Below w.heap.size w w' := by
  rw [co_iff] at ha hb hx hy
  obtain ⟨hw0, hw1⟩ := hw
  obtain ⟨vx, hvx⟩ : ∃ v, v = x - a := ⟨_, rfl⟩
  obtain ⟨vy, hvy⟩ : ∃ v, v = y - b := ⟨_, rfl⟩
  obtain ⟨res, hres⟩ : ∃ res, res = decide (SquareP a b wd x y) := ⟨_, rfl⟩
  rw [← hres]
  have HRES : Hid (res = true ↔ max (2 * vx) (-2 * vx) ≤ wd ∧ max (2 * vy) (-2 * vy) ≤ wd) := by
    show _ ↔ _
    rw [hres, decide_eq_true_eq, hvx, hvy]; exact Iff.rfl
  clear hres
  obtain ⟨a0, a1⟩ := ha
  obtain ⟨b0, b4⟩ := hb
  obtain ⟨x0, x1⟩ := hx
  obtain ⟨y0, y1⟩ := hy
  have v0 : -16382 ≤ vx ∧ vx ≤ 16382 := by omega
  have v1 : -16382 ≤ vy ∧ vy ≤ 16382 := by omega
  obtain ⟨v00, v01⟩ := v0
  obtain ⟨v10, v11⟩ := v1
  replace hvx := hvx.symm
  replace hvy := hvy.symm
  have hB := bal (Below.refl w.heap.size w) (.cells #[.int .i64 a, .int .i64 b, .int .i64 wd] 85)
  go_enter Try.func79, Try.ntmps79
  go_wp2
  go_quiet (fail)
  go_wp2
  all_goals
    go_ret
    refine ⟨congrArg (fun b => Ending.returned (.bool b)) ?_, bdrewN hB _⟩
    rw [Bool.eq_iff_iff, HRES.out]
    simp only [decide_eq_true_eq, Bool.false_eq_true, false_iff]
    omega

theorem ret_b {a b : Bool} (h : a = b) : Ending.returned (.bool a) = .returned (.bool b) := by rw [h]
set_option maxHeartbeats 4000000 in
theorem piece_covers_any (e : Ed) (wd : Int) (f l : Bool) (x y : Int) (w : World) (he : edOK e = true) (hw : WideOK wd) (hx : co x = true) (hy : co y = true) :
    Calls Try.prog 69 #[.agg #[.int .i64 e.x0, .int .i64 e.y0, .bool e.bent, .int .i64 e.cx, .int .i64 e.cy, .int .i64 e.x1, .int .i64 e.y1, .int .i64 wd, .bool f, .bool l], .int .i64 x, .int .i64 y] w
      fun e' w' => e' = .returned (.bool (decide (PieceP e wd f l x y))) ∧ Below w.heap.size w w' := by
  rw [co_iff] at hx hy
  obtain ⟨⟨e0, e1⟩, ⟨e2, e3⟩, _, _, ⟨e4, e5⟩, ⟨e6, e7⟩, _⟩ := edOK_iff.1 he
  obtain ⟨hw0, hw1⟩ := hw
  obtain ⟨x0, x1⟩ := hx
  obtain ⟨y0, y1⟩ := hy
  obtain ⟨dx, hdx⟩ : ∃ v, v = e.x1 - e.x0 := ⟨_, rfl⟩
  obtain ⟨dy, hdy⟩ : ∃ v, v = e.y1 - e.y0 := ⟨_, rfl⟩
  obtain ⟨vx, hvx⟩ : ∃ v, v = x - e.x0 := ⟨_, rfl⟩
  obtain ⟨vy, hvy⟩ : ∃ v, v = y - e.y0 := ⟨_, rfl⟩
  have d0 : -16382 ≤ dx ∧ dx ≤ 16382 := by omega
  have d1 : -16382 ≤ dy ∧ dy ≤ 16382 := by omega
  have v0 : -16382 ≤ vx ∧ vx ≤ 16382 := by omega
  have v1 : -16382 ≤ vy ∧ vy ≤ 16382 := by omega
  obtain ⟨A, hA⟩ : ∃ v, v = dx * dx := ⟨_, rfl⟩
  obtain ⟨B, hB⟩ : ∃ v, v = dy * dy := ⟨_, rfl⟩
  obtain ⟨C, hC⟩ : ∃ v, v = vx * dx := ⟨_, rfl⟩
  obtain ⟨D, hD⟩ : ∃ v, v = vy * dy := ⟨_, rfl⟩
  obtain ⟨E, hE⟩ : ∃ v, v = vx * dy := ⟨_, rfl⟩
  obtain ⟨F, hF⟩ : ∃ v, v = vy * dx := ⟨_, rfl⟩
  have bA := sq_bd d0
  have bB := sq_bd d1
  have bC := mul_pm v0 d0
  have bD := mul_pm v1 d1
  have bE := mul_pm v0 d1
  have bF := mul_pm v1 d0
  rw [← hA] at bA
  rw [← hB] at bB
  rw [← hC] at bC
  rw [← hD] at bD
  rw [← hE] at bE
  rw [← hF] at bF
  obtain ⟨L, hL⟩ : ∃ v, v = A + B := ⟨_, rfl⟩
  obtain ⟨u, hu⟩ : ∃ v, v = C + D := ⟨_, rfl⟩
  obtain ⟨k, hk⟩ : ∃ v, v = E - F := ⟨_, rfl⟩
  have bL : 0 ≤ L ∧ L ≤ 536739848 := by omega
  have bu : -536739848 ≤ u ∧ u ≤ 536739848 := by omega
  have bk : -536739848 ≤ k ∧ k ≤ 536739848 := by omega
  obtain ⟨K, hK⟩ : ∃ v, v = 4 * k * k := ⟨_, rfl⟩
  have bK : 0 ≤ K ∧ K ≤ 1152358657731892416 := by
    have := sq_bd bk
    rw [hK, Int.mul_assoc]; omega
  obtain ⟨W, hW⟩ : ∃ v, v = wd * wd := ⟨_, rfl⟩
  have bW : 0 ≤ W ∧ W ≤ 4194304 := by rw [hW]; exact sq_bd (A := 2048) (by omega)
  obtain ⟨M, hM⟩ : ∃ v, v = W * L := ⟨_, rfl⟩
  have bM : 0 ≤ M ∧ M ≤ 4194304 * 536739848 := by rw [hM]; exact mulN_bd bW bL
  have hSq : sqE e = L := by unfold sqE; rw [← hdx, ← hdy, ← hA, ← hB, hL]
  have hU : armU e x y = u := by unfold armU; rw [← hdx, ← hdy, ← hvx, ← hvy, ← hC, ← hD, hu]
  have hKK : armK e x y = k := by unfold armK; rw [← hdx, ← hdy, ← hvx, ← hvy, ← hE, ← hF, hk]
  have hP : PieceP e wd f l x y ↔ K ≤ M ∧ (0 ≤ u ∨ (f = true ∧ 0 ≤ rsgn (2 * u) wd L)) ∧ (u ≤ L ∨ (l = true ∧ rsgn (2 * (u - L)) (-wd) L ≤ 0)) := by
    unfold PieceP
    rw [hSq, hU, hKK, rsgn_ge hw0 bL.1, rsgn_le (by omega) bL.1]
    have m1 : 2 * u * (2 * u) = 4 * (u * u) := by grind
    have m2 : 2 * (u - L) * (2 * (u - L)) = 4 * ((u - L) * (u - L)) := by grind
    have m3 : -wd * -wd * L = wd * wd * L := by rw [Int.neg_mul_neg]
    have m4 : 4 * k * k = 4 * (k * k) := Int.mul_assoc _ _ _
    rw [m1, m2, m3, ← hW, ← hM, ← m4, ← hK]
    constructor
    · rintro ⟨a, b, c⟩
      exact ⟨a, b.imp id (fun h => ⟨h.1, .inr h.2⟩), c.imp id (fun h => ⟨h.1, .inr h.2⟩)⟩
    · rintro ⟨a, b, c⟩
      refine ⟨a, ?_, ?_⟩
      · rcases b with b | ⟨b1, b | b⟩
        · exact .inl b
        · exact .inl (by omega)
        · exact .inr ⟨b1, b⟩
      · rcases c with c | ⟨c1, c | c⟩
        · exact .inl c
        · exact .inl (by omega)
        · exact .inr ⟨c1, c⟩
  obtain ⟨res, hres⟩ : ∃ res, res = decide (PieceP e wd f l x y) := ⟨_, rfl⟩
  rw [← hres]
  have HRES : Hid (res = true ↔ K ≤ M ∧ (0 ≤ u ∨ (f = true ∧ 0 ≤ rsgn (2 * u) wd L)) ∧ (u ≤ L ∨ (l = true ∧ rsgn (2 * (u - L)) (-wd) L ≤ 0))) := by
    show _ ↔ _
    rw [hres, decide_eq_true_eq]; exact hP
  clear hP hSq hU hKK hres he
  obtain ⟨d00, d01⟩ := d0
  obtain ⟨d10, d11⟩ := d1
  obtain ⟨v00, v01⟩ := v0
  obtain ⟨v10, v11⟩ := v1
  obtain ⟨bA0, bA1⟩ := bA
  obtain ⟨bB0, bB1⟩ := bB
  obtain ⟨bC0, bC1⟩ := bC
  obtain ⟨bD0, bD1⟩ := bD
  obtain ⟨bE0, bE1⟩ := bE
  obtain ⟨bF0, bF1⟩ := bF
  obtain ⟨bL0, bL1⟩ := bL
  obtain ⟨bu0, bu1⟩ := bu
  obtain ⟨bk0, bk1⟩ := bk
  obtain ⟨bK0, bK1⟩ := bK
  obtain ⟨bW0, bW1⟩ := bW
  obtain ⟨bM0, bM1⟩ := bM
  replace hdx := hdx.symm
  replace hdy := hdy.symm
  replace hvx := hvx.symm
  replace hvy := hvy.symm
  replace hA := hA.symm
  replace hB := hB.symm
  replace hC := hC.symm
  replace hD := hD.symm
  replace hE := hE.symm
  replace hF := hF.symm
  replace hL := hL.symm
  replace hu := hu.symm
  replace hk := hk.symm
  replace hK := hK.symm
  replace hW := hW.symm
  replace hM := hM.symm
  have hBl := bal (Below.refl w.heap.size w) (.cells #[.int .i64 e.x0, .int .i64 e.y0, .bool e.bent, .int .i64 e.cx, .int .i64 e.cy, .int .i64 e.x1, .int .i64 e.y1, .int .i64 wd, .bool f, .bool l] 80)
  go_enter Try.func69, Try.ntmps69
  go_wp2
  go_quiet (fail)
  go_wp2
  go_quiet (fail)
  by_cases h1 : M < K
  · go_wp2
    go_ret
    refine ⟨ret_b ?_, by first | exact bdrewN hBl _ | exact btr (bdrewN hBl _) hb1⟩
    rw [Bool.eq_iff_iff, HRES.out]
    simp <;> omega
  · by_cases h2 : u < 0
    · cases f
      · go_wp2
        go_ret
        refine ⟨ret_b ?_, by first | exact bdrewN hBl _ | exact btr (bdrewN hBl _) hb1⟩
        rw [Bool.eq_iff_iff, HRES.out]
        simp <;> omega
      · go_wp2_with fail
        refine (stroke_sign_any (2 * u) wd L _ (by omega) (by omega) (by omega)).mono ?_; rintro e' w1 ⟨rfl, hb1⟩
        obtain ⟨r, hr⟩ : ∃ r, r = rsgn (2 * u) wd L := ⟨_, rfl⟩
        rw [← hr] at HRES ⊢
        clear hr
        go_wp2
        go_ret
        refine ⟨ret_b ?_, by first | exact bdrewN hBl _ | exact btr (bdrewN hBl _) hb1⟩
        rw [Bool.eq_iff_iff, HRES.out]
        simp <;> omega
    · by_cases h3 : L < u
      · cases l
        · go_wp2
          go_ret
          refine ⟨ret_b ?_, by first | exact bdrewN hBl _ | exact btr (bdrewN hBl _) hb1⟩
          rw [Bool.eq_iff_iff, HRES.out]
          simp <;> omega
        · go_wp2_with fail
          refine (stroke_sign_any (2 * (u - L)) (-wd) L _ (by omega) (by omega) (by omega)).mono ?_; rintro e' w1 ⟨rfl, hb1⟩
          obtain ⟨r, hr⟩ : ∃ r, r = rsgn (2 * (u - L)) (-wd) L := ⟨_, rfl⟩
          rw [← hr] at HRES ⊢
          clear hr
          go_wp2
          go_ret
          refine ⟨ret_b ?_, by first | exact bdrewN hBl _ | exact btr (bdrewN hBl _) hb1⟩
          rw [Bool.eq_iff_iff, HRES.out]
          simp <;> omega
      · go_wp2
        go_ret
        refine ⟨ret_b ?_, by first | exact bdrewN hBl _ | exact btr (bdrewN hBl _) hb1⟩
        rw [Bool.eq_iff_iff, HRES.out]
        simp <;> omega

theorem meth_disc (a b wd : Int) (w : World) : (method 220 82 (.agg #[.int .i64 a, .int .i64 b, .int .i64 wd]) "tympan/stroke.covers").run Try.prog w = .ok (78, .agg #[.int .i64 a, .int .i64 b, .int .i64 wd]) w := by kernel_rfl
theorem meth_square (a b wd : Int) (w : World) : (method 220 85 (.agg #[.int .i64 a, .int .i64 b, .int .i64 wd]) "tympan/stroke.covers").run Try.prog w = .ok (79, .agg #[.int .i64 a, .int .i64 b, .int .i64 wd]) w := by kernel_rfl
theorem meth_piece (x0 y0 : Int) (bt : Bool) (cx cy x1 y1 wd : Int) (f l : Bool) (w : World) : (method 220 80 (.agg #[.int .i64 x0, .int .i64 y0, .bool bt, .int .i64 cx, .int .i64 cy, .int .i64 x1, .int .i64 y1, .int .i64 wd, .bool f, .bool l]) "tympan/stroke.covers").run Try.prog w =
    .ok (69, .agg #[.int .i64 x0, .int .i64 y0, .bool bt, .int .i64 cx, .int .i64 cy, .int .i64 x1, .int .i64 y1, .int .i64 wd, .bool f, .bool l]) w := by kernel_rfl
theorem shvs_len (l : List Shp) : (l.map shv).length = l.length := by simp
theorem any_take {α : Type} (f : α → Bool) (l : List α) (k : Nat) (h : k < l.length) : (l.take (k + 1)).any f = ((l.take k).any f || f l[k]) := by
  rw [List.take_succ_eq_append_getElem h, List.any_append]; simp
theorem any_hit {α : Type} (f : α → Bool) (l : List α) (k : Nat) (h : k < l.length) (hf : f l[k] = true) : l.any f = true := List.any_eq_true.2 ⟨_, List.getElem_mem h, hf⟩

set_option maxHeartbeats 1000000 in
theorem covered_any (A : Option Addr) (n c : Nat) (l : List Shp) (x y : Int) (w : World) (hn : n ≤ 1000000) (h : Sl w 1 A n (l.map shv)) (hok : ∀ s ∈ l, ShOK s) (hx : co x = true) (hy : co y = true) :
    Calls Try.prog 19 #[.slice A n c, .int .i64 x, .int .i64 y] w fun e w' => e = .returned (.bool (l.any fun s => covS s x y)) ∧ Below w.heap.size w w' := by
  have hl : l.length = n := by have := h.1; rw [shvs_len] at this; omega
  have HL := Lib.hid hl
  have HOK := Lib.hid hok
  clear hl hok
  go_enter Try.func19, Try.ntmps19
  go_wp2
  go_loopw [11] (fun i wr => ∃ k : Nat, k ≤ n ∧ i = .int .i64 (k : Int) ∧ Below w.heap.size w wr ∧ Hid ((l.take k).any (fun s => covS s x y) = false)) (fun i _ => n - (intOf i).toNat)
  case atStart => exact ⟨0, by omega, rfl, Below.refl _ _, rfl⟩
  case round =>
    obtain ⟨wo, rfl⟩ : ∃ wo : World, wo = wr := ⟨_, rfl⟩
    obtain ⟨k, hk, rfl, hb, hno⟩ := hrel
    by_cases hlt : k < n
    · have hkl : k < l.length := by rw [HL.out]; exact hlt
      obtain ⟨b, off, rfl, hbl, hc⟩ := h.2 (by omega)
      have c0 := hc k (shv l[k]) (by rw [List.getElem?_map, List.getElem?_eq_getElem hkl]; rfl)
      replace c0 := (later_cell hb hbl).trans c0
      have hk2 := HOK.out _ (List.getElem_mem hkl)
      have hat := any_take (fun s => covS s x y) l k hkl
      have hit := any_hit (fun s => covS s x y) l k hkl
      obtain ⟨s, hs⟩ : ∃ s, s = l[k] := ⟨_, rfl⟩
      rw [← hs] at c0 hk2 hat hit
      rw [hno.out, Bool.false_or] at hat
      have HAT := Lib.hid hat
      have HIT := Lib.hid hit
      clear hs hat hit hc hno
      cases s with
      | disc a b' wd =>
        obtain ⟨q1, q2, q3⟩ : co a = true ∧ co b' = true ∧ WideOK wd := hk2
        simp only [shv] at c0
        have hm := fun w => meth_disc a b' wd w
        go_wp2_with fail
        refine (disc_covers_any a b' wd x y _ q1 q2 q3 hx hy).mono ?_
        rintro e' w1 ⟨rfl, hb1⟩
        have hB1 := btr hb hb1
        have hcv : covS (.disc a b' wd) x y = decide _ := rfl
        cases hd : covS (.disc a b' wd) x y
        · rw [hcv] at hd
          rw [hd]
          have HA2 := HAT.out
          rw [hcv, hd] at HA2
          have HA3 := Lib.hid HA2
          clear HA2 hd hcv
          go_wp2
          go_roundw
          case rel => exact ⟨k + 1, by omega, by go_num, hB1, HA3.out⟩
          case measure => simp [intOf]; omega
        · have H2 := HIT.out hd
          rw [hcv] at hd
          rw [hd]
          have H3 := Lib.hid H2
          clear H2 hd hcv
          go_wp2
          try rw [Exit.noGoto_ret]
          go_ret
          exact ⟨ret_b H3.out.symm, hB1⟩
      | sq a b' wd =>
        obtain ⟨q1, q2, q3⟩ : co a = true ∧ co b' = true ∧ WideOK wd := hk2
        simp only [shv] at c0
        have hm := fun w => meth_square a b' wd w
        go_wp2_with fail
        refine (square_covers_any a b' wd x y _ q1 q2 q3 hx hy).mono ?_
        rintro e' w1 ⟨rfl, hb1⟩
        have hB1 := btr hb hb1
        have hcv : covS (.sq a b' wd) x y = decide _ := rfl
        cases hd : covS (.sq a b' wd) x y
        · rw [hcv] at hd
          rw [hd]
          have HA2 := HAT.out
          rw [hcv, hd] at HA2
          have HA3 := Lib.hid HA2
          clear HA2 hd hcv
          go_wp2
          go_roundw
          case rel => exact ⟨k + 1, by omega, by go_num, hB1, HA3.out⟩
          case measure => simp [intOf]; omega
        · have H2 := HIT.out hd
          rw [hcv] at hd
          rw [hd]
          have H3 := Lib.hid H2
          clear H2 hd hcv
          go_wp2
          try rw [Exit.noGoto_ret]
          go_ret
          exact ⟨ret_b H3.out.symm, hB1⟩
      | pc e wd f z =>
        obtain ⟨q1, q2⟩ : edOK e = true ∧ WideOK wd := hk2
        simp only [shv] at c0
        have hm := fun w => meth_piece e.x0 e.y0 e.bent e.cx e.cy e.x1 e.y1 wd f z w
        go_wp2_with fail
        refine (piece_covers_any e wd f z x y _ q1 q2 hx hy).mono ?_
        rintro e' w1 ⟨rfl, hb1⟩
        have hB1 := btr hb hb1
        have hcv : covS (.pc e wd f z) x y = decide _ := rfl
        cases hd : covS (.pc e wd f z) x y
        · rw [hcv] at hd
          rw [hd]
          have HA2 := HAT.out
          rw [hcv, hd] at HA2
          have HA3 := Lib.hid HA2
          clear HA2 hd hcv
          go_wp2
          go_roundw
          case rel => exact ⟨k + 1, by omega, by go_num, hB1, HA3.out⟩
          case measure => simp [intOf]; omega
        · have H2 := HIT.out hd
          rw [hcv] at hd
          rw [hd]
          have H3 := Lib.hid H2
          clear H2 hd hcv
          go_wp2
          try rw [Exit.noGoto_ret]
          go_ret
          exact ⟨ret_b H3.out.symm, hB1⟩
    · obtain rfl : k = n := by omega
      have ht : l.take k = l := List.take_of_length_le (by rw [HL.out]; omega)
      have hno2 := hno.out
      rw [ht] at hno2
      have HNO := Lib.hid hno2
      clear ht hno2
      go_wp2
      go_ret
      exact ⟨ret_b HNO.out.symm, hb⟩
end Go.Proofs.Ytbpgehaflbacmaa
