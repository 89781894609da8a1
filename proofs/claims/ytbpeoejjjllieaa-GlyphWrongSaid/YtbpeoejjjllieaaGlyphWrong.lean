/- The walk of GlyphWrong: it returns true. -/
import Derived.Test.YtbpeoejjjllieaaGlyph12
import Derived.Test.YtbpeoejjjllieaaGlyphWrongP
namespace Go.Proofs.Ytbpeoejjjllieaa
open Go.RowKit Go.BigFrame

theorem wr_say {xs : List Int} {ns : List Nat} {er : Int} (hx : ∀ x ∈ xs, 0 ≤ x ∧ x < 256) (hn : xs.map Int.toNat = ns) (hr : RunG ns = (([], 0), er)) : RunG (bl (strOfNums xs)) = (([], 0), er) := by rw [bl_nums hx, hn, hr]

theorem u8_info : ∃ i, Try.prog.info? 5 = some i ∧ i.zero = some (.int .u8 0) ∧ i.size = 1 ∧ i.bytes = 1 := by
  have h : (Try.prog.info? 5).map (fun i => (i.zero, i.size, i.bytes)) = some (some (.int .u8 0), 1, 1) := by kernel_rfl
  cases hi : Try.prog.info? 5 with
  | none => rw [hi] at h; cases h
  | some i =>
    rw [hi] at h
    simp only [Option.map_some, Option.some.injEq, Prod.mk.injEq] at h
    exact ⟨i, rfl, h.1, h.2.1, h.2.2⟩
theorem mk_bytes (W : World) (u : Nat) (h : u ≤ 100000) : (Instr.makeSlice 25 (.int .i64 (u : Int)) (.int .i64 (u : Int))).run Try.prog W = .ok (.slice (some ⟨W.heap.size, 0, none⟩) u u) (W.alloc (.cells (madeCells #[.int .u8 0] u) 5)) := by
  obtain ⟨i, h1, h2, h3, h4⟩ := u8_info
  have := run_makeSlice (P := Try.prog) W 25 5 i _ Try.underlying25 h1 h2 .i64 .i64 (u : Int) (u : Int) (by omega) (by omega) (by rw [h3]; simp; omega) (by rw [h4]; simp; omega) (by omega)
  rw [h3] at this
  simpa [Value.cells] using this
theorem made_get {u i : Nat} (h : i < u) : (madeCells #[.int .u8 0] u)[i]? = some (.int .u8 0) := by
  simp [madeCells, h, Nat.mod_one]
theorem zero_str (W : World) (u : Nat) : (convert 25 9 (.slice (some ⟨W.heap.size, 0, none⟩) u u)).run Try.prog (W.alloc (.cells (madeCells #[.int .u8 0] u) 5)) = .ok (.string (strOfNums (List.replicate u 0))) (W.alloc (.cells (madeCells #[.int .u8 0] u) 5)) := by
  refine run_convert_bytes_arg _ 25 5 Try.underlying25 Try.underlying5 W.heap.size 0 u u (List.replicate u 0) (by simp) (fun i hi => ?_) 9 Try.underlying9
  rw [Nat.zero_add, new_cell, made_get hi]
  simp [List.getD, hi]
set_option maxRecDepth 100000 in
set_option maxHeartbeats 4000000 in
theorem GlyphWrong_any (how k : Int) (w : World) : Calls Try.prog 5 #[.int .i64 how, .int .i64 k] w fun e w' => e = .returned (.bool true) ∧ Below w.heap.size w w' := by
  obtain ⟨v, hv, hv100⟩ : ∃ v : Nat, placeI k 100 = (v : Int) ∧ v < 100 := ⟨(placeI k 100).toNat, by unfold placeI; omega, by unfold placeI; omega⟩
  have hcase : placeI how 12 = 0 ∨ placeI how 12 = 1 ∨ placeI how 12 = 2 ∨ placeI how 12 = 3 ∨ placeI how 12 = 4 ∨ placeI how 12 = 5 ∨ placeI how 12 = 6 ∨ placeI how 12 = 7 ∨ placeI how 12 = 8 ∨ placeI how 12 = 9 ∨ placeI how 12 = 10 ∨ placeI how 12 = 11 := by unfold placeI; omega
  have wv : IntKind.u8.wrap (v : Int) = (v : Int) := by simp only [IntKind.wrap, IntKind.signed, IntKind.bits]; simp; omega
  go_enter Try.func5, Try.ntmps5
  go_wp2_with fail
  refine (known40_any _).mono ?_; rintro e w1 ⟨rfl, hb1⟩
  go_wp2_with fail
  refine (Place_any k 100 _ (by omega) (by omega)).mono ?_; rintro e w2 ⟨rfl, rfl⟩
  rw [hv]
  clear hv
  rcases hcase with hh | hh | hh | hh | hh | hh | hh | hh | hh | hh | hh | hh
  · have k1 : ∀ W : World, (convert 25 9 (.slice (some ⟨W.heap.size, 0, none⟩) 3 3)).run Try.prog (W.alloc (.cells #[.int .u8 0, .int .u8 (12 + (v : Int) % 20), .int .u8 10] 5)) = .ok (.string (strOfNums [0, 12 + (v : Int) % 20, 10])) (W.alloc (.cells #[.int .u8 0, .int .u8 (12 + (v : Int) % 20), .int .u8 10] 5)) := fun W => lit_str W [0, 12 + (v : Int) % 20, 10] 3 rfl
    have SAY := Lib.hid (wr_say (xs := [0, 12 + (v : Int) % 20, 10]) (by intro x hx; simp only [List.mem_cons, List.not_mem_nil, or_false] at hx; omega) (by simp only [List.map_cons, List.map_nil, List.cons.injEq, and_true]; omega) (wr0 v hv100))
    go_wp2_with fail
    refine (Place_any how 12 _ (by omega) (by omega)).mono ?_; rintro e w3 ⟨rfl, rfl⟩
    rw [hh]
    go_wp2_with fail
    refine (Run_is (n := 0) _ (by rw [strOfNums_size]; simp) (SAY.out) rfl).mono ?_; rintro e w4 ⟨A4, c4, rfl, -, hb4⟩
    go_wp2_with fail
    go_ret
    exact ⟨rfl, btr (bal hb1 _) hb4⟩
  · have k1 : ∀ W : World, (convert 25 9 (.slice (some ⟨W.heap.size, 0, none⟩) 4 4)).run Try.prog (W.alloc (.cells #[.int .u8 0, .int .u8 139, .int .u8 3, .int .u8 10] 5)) = .ok (.string (strOfNums [0, 139, 3, 10])) (W.alloc (.cells #[.int .u8 0, .int .u8 139, .int .u8 3, .int .u8 10] 5)) := fun W => lit_str W [0, 139, 3, 10] 4 rfl
    have SAY := Lib.hid (wr_say (xs := [0, 139, 3, 10]) (by decide) (by decide) (wr1))
    go_wp2_with fail
    refine (Place_any how 12 _ (by omega) (by omega)).mono ?_; rintro e w3 ⟨rfl, rfl⟩
    rw [hh]
    go_wp2_with fail
    refine (Run_is (n := 0) _ (by rw [strOfNums_size]; simp) (SAY.out) rfl).mono ?_; rintro e w4 ⟨A4, c4, rfl, -, hb4⟩
    go_wp2_with fail
    go_ret
    exact ⟨rfl, btr (bal hb1 _) hb4⟩
  · have k1 : ∀ W : World, (convert 25 9 (.slice (some ⟨W.heap.size, 0, none⟩) 6 6)).run Try.prog (W.alloc (.cells #[.int .u8 0, .int .u8 139, .int .u8 139, .int .u8 139, .int .u8 2, .int .u8 10] 5)) = .ok (.string (strOfNums [0, 139, 139, 139, 2, 10])) (W.alloc (.cells #[.int .u8 0, .int .u8 139, .int .u8 139, .int .u8 139, .int .u8 2, .int .u8 10] 5)) := fun W => lit_str W [0, 139, 139, 139, 2, 10] 6 rfl
    have SAY := Lib.hid (wr_say (xs := [0, 139, 139, 139, 2, 10]) (by decide) (by decide) (wr2))
    go_wp2_with fail
    refine (Place_any how 12 _ (by omega) (by omega)).mono ?_; rintro e w3 ⟨rfl, rfl⟩
    rw [hh]
    go_wp2_with fail
    refine (Run_is (n := 0) _ (by rw [strOfNums_size]; simp) (SAY.out) rfl).mono ?_; rintro e w4 ⟨A4, c4, rfl, -, hb4⟩
    go_wp2_with fail
    go_ret
    exact ⟨rfl, btr (bal hb1 _) hb4⟩
  · have k1 : ∀ W : World, (convert 25 9 (.slice (some ⟨W.heap.size, 0, none⟩) 5 5)).run Try.prog (W.alloc (.cells #[.int .u8 0, .int .u8 139, .int .u8 (139 + (v : Int)), .int .u8 3, .int .u8 10] 5)) = .ok (.string (strOfNums [0, 139, 139 + (v : Int), 3, 10])) (W.alloc (.cells #[.int .u8 0, .int .u8 139, .int .u8 (139 + (v : Int)), .int .u8 3, .int .u8 10] 5)) := fun W => lit_str W [0, 139, 139 + (v : Int), 3, 10] 5 rfl
    have SAY := Lib.hid (wr_say (xs := [0, 139, 139 + (v : Int), 3, 10]) (by intro x hx; simp only [List.mem_cons, List.not_mem_nil, or_false] at hx; omega) (by simp only [List.map_cons, List.map_nil, List.cons.injEq, and_true]; omega) (wr3 v hv100))
    go_wp2_with fail
    refine (Place_any how 12 _ (by omega) (by omega)).mono ?_; rintro e w3 ⟨rfl, rfl⟩
    rw [hh]
    go_wp2_with fail
    refine (Run_is (n := 0) _ (by rw [strOfNums_size]; simp) (SAY.out) rfl).mono ?_; rintro e w4 ⟨A4, c4, rfl, -, hb4⟩
    go_wp2_with fail
    go_ret
    exact ⟨rfl, btr (bal hb1 _) hb4⟩
  · have k1 : ∀ W : World, (convert 25 9 (.slice (some ⟨W.heap.size, 0, none⟩) 1 1)).run Try.prog (W.alloc (.cells #[.int .u8 (17 + (v : Int))] 5)) = .ok (.string (strOfNums [17 + (v : Int)])) (W.alloc (.cells #[.int .u8 (17 + (v : Int))] 5)) := fun W => lit_str W [17 + (v : Int)] 1 rfl
    have SAY := Lib.hid (wr_say (xs := [17 + (v : Int)]) (by intro x hx; simp only [List.mem_cons, List.not_mem_nil, or_false] at hx; omega) (by simp only [List.map_cons, List.map_nil, List.cons.injEq, and_true]; omega) (wr4 v hv100))
    go_wp2_with fail
    refine (Place_any how 12 _ (by omega) (by omega)).mono ?_; rintro e w3 ⟨rfl, rfl⟩
    rw [hh]
    go_wp2_with fail
    refine (Run_is (n := 0) _ (by rw [strOfNums_size]; simp) (SAY.out) rfl).mono ?_; rintro e w4 ⟨A4, c4, rfl, -, hb4⟩
    go_wp2_with fail
    go_ret
    exact ⟨rfl, btr (bal hb1 _) hb4⟩
  · have k1 : ∀ W : World, (convert 25 9 (.slice (some ⟨W.heap.size, 0, none⟩) 3 3)).run Try.prog (W.alloc (.cells #[.int .u8 1, .int .u8 (3 + (v : Int)), .int .u8 9] 5)) = .ok (.string (strOfNums [1, 3 + (v : Int), 9])) (W.alloc (.cells #[.int .u8 1, .int .u8 (3 + (v : Int)), .int .u8 9] 5)) := fun W => lit_str W [1, 3 + (v : Int), 9] 3 rfl
    have SAY := Lib.hid (wr_say (xs := [1, 3 + (v : Int), 9]) (by intro x hx; simp only [List.mem_cons, List.not_mem_nil, or_false] at hx; omega) (by simp only [List.map_cons, List.map_nil, List.cons.injEq, and_true]; omega) (wr5 v hv100))
    go_wp2_with fail
    refine (Place_any how 12 _ (by omega) (by omega)).mono ?_; rintro e w3 ⟨rfl, rfl⟩
    rw [hh]
    go_wp2_with fail
    refine (Run_is (n := 0) _ (by rw [strOfNums_size]; simp) (SAY.out) rfl).mono ?_; rintro e w4 ⟨A4, c4, rfl, -, hb4⟩
    go_wp2_with fail
    go_ret
    exact ⟨rfl, btr (bal hb1 _) hb4⟩
  · have k1 : ∀ W : World, (convert 25 9 (.slice (some ⟨W.heap.size, 0, none⟩) 3 3)).run Try.prog (W.alloc (.cells #[.int .u8 0, .int .u8 9, .int .u8 10] 5)) = .ok (.string (strOfNums [0, 9, 10])) (W.alloc (.cells #[.int .u8 0, .int .u8 9, .int .u8 10] 5)) := fun W => lit_str W [0, 9, 10] 3 rfl
    have SAY := Lib.hid (wr_say (xs := [0, 9, 10]) (by decide) (by decide) (wr6))
    go_wp2_with fail
    refine (Place_any how 12 _ (by omega) (by omega)).mono ?_; rintro e w3 ⟨rfl, rfl⟩
    rw [hh]
    go_wp2_with fail
    refine (Run_is (n := 0) _ (by rw [strOfNums_size]; simp) (SAY.out) rfl).mono ?_; rintro e w4 ⟨A4, c4, rfl, -, hb4⟩
    go_wp2_with fail
    go_ret
    exact ⟨rfl, btr (bal hb1 _) hb4⟩
  · have k1 : ∀ W : World, (convert 25 9 (.slice (some ⟨W.heap.size, 0, none⟩) 4 4)).run Try.prog (W.alloc (.cells #[.int .u8 0, .int .u8 (139 + (v : Int)), .int .u8 8, .int .u8 10] 5)) = .ok (.string (strOfNums [0, 139 + (v : Int), 8, 10])) (W.alloc (.cells #[.int .u8 0, .int .u8 (139 + (v : Int)), .int .u8 8, .int .u8 10] 5)) := fun W => lit_str W [0, 139 + (v : Int), 8, 10] 4 rfl
    have SAY := Lib.hid (wr_say (xs := [0, 139 + (v : Int), 8, 10]) (by intro x hx; simp only [List.mem_cons, List.not_mem_nil, or_false] at hx; omega) (by simp only [List.map_cons, List.map_nil, List.cons.injEq, and_true]; omega) (wr7 v hv100))
    go_wp2_with fail
    refine (Place_any how 12 _ (by omega) (by omega)).mono ?_; rintro e w3 ⟨rfl, rfl⟩
    rw [hh]
    go_wp2_with fail
    refine (Run_is (n := 0) _ (by rw [strOfNums_size]; simp) (SAY.out) rfl).mono ?_; rintro e w4 ⟨A4, c4, rfl, -, hb4⟩
    go_wp2_with fail
    go_ret
    exact ⟨rfl, btr (bal hb1 _) hb4⟩
  · have k1 : ∀ W : World, (convert 25 9 (.slice (some ⟨W.heap.size, 0, none⟩) 7 7)).run Try.prog (W.alloc (.cells #[.int .u8 1, .int .u8 2, .int .u8 139, .int .u8 8, .int .u8 139, .int .u8 8, .int .u8 10] 5)) = .ok (.string (strOfNums [1, 2, 139, 8, 139, 8, 10])) (W.alloc (.cells #[.int .u8 1, .int .u8 2, .int .u8 139, .int .u8 8, .int .u8 139, .int .u8 8, .int .u8 10] 5)) := fun W => lit_str W [1, 2, 139, 8, 139, 8, 10] 7 rfl
    have SAY := Lib.hid (wr_say (xs := [1, 2, 139, 8, 139, 8, 10]) (by decide) (by decide) (wr8))
    go_wp2_with fail
    refine (Place_any how 12 _ (by omega) (by omega)).mono ?_; rintro e w3 ⟨rfl, rfl⟩
    rw [hh]
    go_wp2_with fail
    refine (Run_is (n := 0) _ (by rw [strOfNums_size]; simp) (SAY.out) rfl).mono ?_; rintro e w4 ⟨A4, c4, rfl, -, hb4⟩
    go_wp2_with fail
    go_ret
    exact ⟨rfl, btr (bal hb1 _) hb4⟩
  · have k1 : ∀ W : World, (convert 25 9 (.slice (some ⟨W.heap.size, 0, none⟩) 7 7)).run Try.prog (W.alloc (.cells #[.int .u8 0, .int .u8 139, .int .u8 139, .int .u8 2, .int .u8 (139 + (v : Int)), .int .u8 1, .int .u8 10] 5)) = .ok (.string (strOfNums [0, 139, 139, 2, 139 + (v : Int), 1, 10])) (W.alloc (.cells #[.int .u8 0, .int .u8 139, .int .u8 139, .int .u8 2, .int .u8 (139 + (v : Int)), .int .u8 1, .int .u8 10] 5)) := fun W => lit_str W [0, 139, 139, 2, 139 + (v : Int), 1, 10] 7 rfl
    have SAY := Lib.hid (wr_say (xs := [0, 139, 139, 2, 139 + (v : Int), 1, 10]) (by intro x hx; simp only [List.mem_cons, List.not_mem_nil, or_false] at hx; omega) (by simp only [List.map_cons, List.map_nil, List.cons.injEq, and_true]; omega) (wr9 v hv100))
    go_wp2_with fail
    refine (Place_any how 12 _ (by omega) (by omega)).mono ?_; rintro e w3 ⟨rfl, rfl⟩
    rw [hh]
    go_wp2_with fail
    refine (Run_is (n := 0) _ (by rw [strOfNums_size]; simp) (SAY.out) rfl).mono ?_; rintro e w4 ⟨A4, c4, rfl, -, hb4⟩
    go_wp2_with fail
    go_ret
    exact ⟨rfl, btr (bal hb1 _) hb4⟩
  · have k1 : ∀ W : World, (convert 25 9 (.slice (some ⟨W.heap.size, 0, none⟩) 4 4)).run Try.prog (W.alloc (.cells #[.int .u8 0, .int .u8 (138 - (v : Int)), .int .u8 1, .int .u8 10] 5)) = .ok (.string (strOfNums [0, 138 - (v : Int), 1, 10])) (W.alloc (.cells #[.int .u8 0, .int .u8 (138 - (v : Int)), .int .u8 1, .int .u8 10] 5)) := fun W => lit_str W [0, 138 - (v : Int), 1, 10] 4 rfl
    have SAY := Lib.hid (wr_say (xs := [0, 138 - (v : Int), 1, 10]) (by intro x hx; simp only [List.mem_cons, List.not_mem_nil, or_false] at hx; omega) (by simp only [List.map_cons, List.map_nil, List.cons.injEq, and_true]; omega) (wr10 v hv100))
    go_wp2_with fail
    refine (Place_any how 12 _ (by omega) (by omega)).mono ?_; rintro e w3 ⟨rfl, rfl⟩
    rw [hh]
    go_wp2_with fail
    refine (Run_is (n := 0) _ (by rw [strOfNums_size]; simp) (SAY.out) rfl).mono ?_; rintro e w4 ⟨A4, c4, rfl, -, hb4⟩
    go_wp2_with fail
    go_ret
    exact ⟨rfl, btr (bal hb1 _) hb4⟩
  · obtain ⟨u, hu⟩ : ∃ u : Nat, (600 : Int) + (v : Int) = (u : Int) ∧ 600 ≤ u ∧ u ≤ 700 := ⟨600 + v, by simp, by omega, by omega⟩
    obtain ⟨hu, hu1, hu2⟩ := hu
    have hmk := fun W => mk_bytes W u (by omega)
    have hcv := fun W => zero_str W u
    have hss : (strOfNums (List.replicate u 0)).size = u := by rw [strOfNums_size, List.length_replicate]
    have hs0 : ({ data := #[0] } : ByteArray).size = 1 := rfl
    have SAY := Lib.hid (show RunG (bl ({ data := #[0] } ++ strOfNums (List.replicate u 0))) = (([], 0), 5) from wr11 (by rw [bl_add, List.length_append, bl_len, bl_len, strOfNums_size, List.length_replicate]; simp [ByteArray.size]; omega))
    have HSZ := Lib.hid (show (({ data := #[0] } : ByteArray) ++ strOfNums (List.replicate u 0)).size ≤ 1000000 by rw [ByteArray.size_append, strOfNums_size, List.length_replicate]; simp [ByteArray.size]; omega)
    go_wp2_with fail
    refine (Place_any how 12 _ (by omega) (by omega)).mono ?_; rintro e w3 ⟨rfl, rfl⟩
    rw [hh]
    go_wp2_with fail
    refine (Run_is (n := 0) _ HSZ.out SAY.out rfl).mono ?_; rintro e w4 ⟨A4, c4, rfl, -, hb4⟩
    go_wp2_with fail
    go_ret
    exact ⟨rfl, btr (bal hb1 _) hb4⟩
end Go.Proofs.Ytbpeoejjjllieaa
