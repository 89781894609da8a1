/- tympanhelp.Kept: a copy, and the room behind it, are as they were. -/
import Derived.Test.YtaadajadeemndaaOwnKI
import Derived.Test.YtaadajadeemndaaSame
import Derived.Test.YtaadajadeemndaaHelpState
namespace Go.Proofs.Ytaadajadeemndaa
open Go.RowKit Go.BigFrame

theorem fill_get {α : Type} (l : List α) (F : α) (m : Nat) (h1 : l.length ≤ m) (h2 : m < (l ++ [F, F, F]).length) : (l ++ [F, F, F])[m] = F := by
  rw [List.getElem_append_right h1]
  have h3 : m - l.length < 3 := by simp at h2; omega
  have h4 : m - l.length = 0 ∨ m - l.length = 1 ∨ m - l.length = 2 := by omega
  rcases h4 with h | h | h <;> simp [h]
theorem BC.sl_front {w : World} {g s n : Nat} {C : List Value} {xs : List Value} (h : BC w g C) (hx : ∃ r, C = xs ++ r) (hl : xs.length = n * s) : Sl w s (some ⟨g, 0, none⟩) n xs := by
  obtain ⟨r, rfl⟩ := hx
  refine ⟨hl, fun _ => ⟨g, 0, rfl, h.lt, fun j u hu => ?_⟩⟩
  rw [Nat.zero_add]
  have hj := (List.getElem?_eq_some_iff.1 hu).1
  exact h.c j u (by rw [List.getElem?_append_left hj]; exact hu)
set_option maxRecDepth 100000 in
set_option maxHeartbeats 4000000 in
theorem keptSg_any (A : Option Addr) (n c g : Nat) (l : List Sg) (F : Sg) (w : World) (hB : BC w g (sgs (l ++ [F, F, F]))) (h : Sl w 5 A n (sgs l)) (hln : l.length = n) (hn : n ≤ 1000) :
    Calls Try.prog 19 #[.slice (some ⟨g, 0, none⟩) n (n + 3), .slice A n c, .agg #[.int .i64 F.kind, .int .i64 F.x, .int .i64 F.y, .int .i64 F.cx, .int .i64 F.cy]] w fun e w' => e = .returned (.bool true) ∧ Below w.heap.size w w' := by
  obtain ⟨w0, hw0⟩ : ∃ w0 : World, w0 = w.alloc (.cells (sgc F).toArray 42) := ⟨_, rfl⟩
  have hB0 : Below w.heap.size w w0 := by rw [hw0]; exact bal (Below.refl _ _) _
  have hF : BC w0 w.heap.size (sgc F) := by rw [hw0]; exact BC.new (sgc F) 42 rfl
  have hB1 := hB.below hB0
  have hs1 : Sl w0 5 (some ⟨g, 0, none⟩) n (sgs l) := hB1.sl_front ⟨sgs [F, F, F], sgs_app _ _⟩ (by rw [sgs_len, hln])
  have hs2 := h.below hB0
  have HSame := Lib.hid (sameSg_any (some ⟨g, 0, none⟩) A n n (n + 3) c l w0 (by omega) hs1 hs2)
  have HB := Lib.hid hB1
  have HF := Lib.hid hF
  have HL := Lib.hid hln
  unfold sgc at hw0
  clear hB h hs1 hs2 hB1 hF hln
  go_enter Try.func19, Try.ntmps19
  go_upto_region 1 with (fail)
  rw [← hw0]
  clear hw0
  go_wp2_with fail
  refine HSame.out.mono ?_; rintro e w1 ⟨rfl, q1, hq1⟩
  have G1 : Below w0.heap.size w0 w1 := hq1 ▸ bdrewN (Below.refl w0.heap.size w0) q1
  clear hq1
  go_wp2_with fail
  go_loopw [8] (fun s8 wr => ∃ m : Nat, n ≤ m ∧ m ≤ n + 3 ∧ s8 = .int .i64 (m : Int) ∧ ∃ q, w1.drewN q = wr) (fun s8 _ => n + 3 - (intOf s8).toNat)
  case atStart => exact ⟨n, Nat.le_refl _, by omega, rfl, 0, rfl⟩
  case round =>
    obtain ⟨m, hm1, hm2, rfl, q, rfl⟩ := hrel
    by_cases hlt : m < n + 3
    · have hml : m < (l ++ [F, F, F]).length := by rw [List.length_append, HL.out]; simpa using hlt
      have hmF := fill_get l F m (by rw [HL.out]; exact hm1) hml
      have gc : ∀ j u, j < 5 → (sgc F)[j]? = some u → w1.cell? ⟨g, m * 5 + j, none⟩ = some u := fun j u hj hu => by
        refine (HB.out.below G1).c _ _ ?_
        rw [show sgs (l ++ [F, F, F]) = (l ++ [F, F, F]).flatMap sgc from rfl, get_flat sgc 5 (fun _ => rfl) _ m j hml hj, hmF]
        exact hu
      have c0 := gc 0 _ (by omega) rfl
      have c1 := gc 1 _ (by omega) rfl
      have c2 := gc 2 _ (by omega) rfl
      have c3 := gc 3 _ (by omega) rfl
      have c4 := gc 4 _ (by omega) rfl
      rw [Nat.add_zero] at c0
      have F1 := HF.out.below G1
      have d0 := F1.c 0 _ rfl
      have d1 := F1.c 1 _ rfl
      have d2 := F1.c 2 _ rfl
      have d3 := F1.c 3 _ rfl
      have d4 := F1.c 4 _ rfl
      clear gc hmF hml F1
      go_wp2_with fail
      go_quiet (fail)
      go_wp2_with fail
      go_roundw
      case rel => exact ⟨m + 1, by omega, by omega, by go_num, q + nq, rfl⟩
      case measure => simp [intOf]; omega
    · go_wp2_with fail
      go_ret
      exact ⟨rfl, bdrewN (btr hB0 G1) q⟩
set_option maxRecDepth 100000 in
set_option maxHeartbeats 4000000 in
theorem keptInt_any (A : Option Addr) (n c g : Nat) (l : List Int) (F : Int) (w : World) (hB : BC w g (ints (l ++ [F, F, F]))) (h : Sl w 1 A n (ints l)) (hln : l.length = n) (hn : n ≤ 1000) :
    Calls Try.prog 20 #[.slice (some ⟨g, 0, none⟩) n (n + 3), .slice A n c, .int .i64 F] w fun e w' => e = .returned (.bool true) ∧ Below w.heap.size w w' := by
  have hs1 : Sl w 1 (some ⟨g, 0, none⟩) n (ints l) := hB.sl_front ⟨ints [F, F, F], by simp [ints]⟩ (by simp [ints, hln])
  have HSame := Lib.hid (sameInt_any (some ⟨g, 0, none⟩) A n n (n + 3) c l w (by omega) hs1 h)
  have HB := Lib.hid hB
  have HL := Lib.hid hln
  clear hB h hs1 hln
  go_enter Try.func20, Try.ntmps20
  go_wp2_with fail
  refine HSame.out.mono ?_; rintro e w1 ⟨rfl, q1, hq1⟩
  have G1 : Below w.heap.size w w1 := hq1 ▸ bdrewN (Below.refl w.heap.size w) q1
  clear hq1
  go_wp2_with fail
  go_loopw [8] (fun s8 wr => ∃ m : Nat, n ≤ m ∧ m ≤ n + 3 ∧ s8 = .int .i64 (m : Int) ∧ ∃ q, w1.drewN q = wr) (fun s8 _ => n + 3 - (intOf s8).toNat)
  case atStart => exact ⟨n, Nat.le_refl _, by omega, rfl, 0, rfl⟩
  case round =>
    obtain ⟨m, hm1, hm2, rfl, q, rfl⟩ := hrel
    by_cases hlt : m < n + 3
    · have hml : m < (l ++ [F, F, F]).length := by rw [List.length_append, HL.out]; simpa using hlt
      have hmF := fill_get l F m (by rw [HL.out]; exact hm1) hml
      have c0 : w1.cell? ⟨g, m, none⟩ = some (.int .i64 F) := (HB.out.below G1).c m _ (by rw [show ints (l ++ [F, F, F]) = (l ++ [F, F, F]).map (Value.int .i64) from rfl, List.getElem?_map, List.getElem?_eq_getElem hml, hmF]; rfl)
      clear hmF hml
      go_wp2_with fail
      try (go_quiet (fail))
      try (go_wp2_with fail)
      go_roundw
      case rel => exact ⟨m + 1, by omega, by omega, by go_num, q, rfl⟩
      case measure => simp [intOf]; omega
    · go_wp2_with fail
      go_ret
      exact ⟨rfl, bdrewN G1 q⟩
end Go.Proofs.Ytaadajadeemndaa
