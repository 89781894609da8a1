/- Letters' programs: texts out of bytes; the document's examples. -/
import Derived.Test.YtoehkfinchnadaaGlyph11
import Derived.Test.YtoehkfinchnadaaSame
import Derived.Laws.BytesArg
namespace Go.Proofs.Ytoehkfinchnadaa
open Go.RowKit Go.BigFrame

theorem bl_nums {xs : List Int} (h : ∀ x ∈ xs, 0 ≤ x ∧ x < 256) : bl (strOfNums xs) = xs.map Int.toNat := by
  unfold bl
  rw [strOfNums_data, List.map_map]
  apply List.map_congr_left
  intro x hx
  obtain ⟨h0, h1⟩ := h x hx
  simp only [Function.comp_apply, UInt8.toNat_ofNat']
  omega
theorem bl_add (a b : ByteArray) : bl (a ++ b) = bl a ++ bl b := by simp [bl]
/-- A new row of bytes as a text. -/
theorem lit_str (W : World) (xs : List Int) (n : Nat) (hn : xs.length = n) : (convert 36 9 (.slice (some ⟨W.heap.size, 0, none⟩) n n)).run Try.prog (W.alloc (.cells (xs.map (Value.int .u8)).toArray 5)) = .ok (.string (strOfNums xs)) (W.alloc (.cells (xs.map (Value.int .u8)).toArray 5)) := by
  subst hn
  refine run_convert_bytes_arg _ 36 5 Try.underlying36 Try.underlying5 W.heap.size 0 xs.length xs.length xs rfl (fun i hi => ?_) 9 Try.underlying9
  rw [Nat.zero_add, new_cell]
  simp [List.getD, List.getElem?_eq_getElem hi]
theorem knG1 : RunG (bl { data := #[0, 10] }) = (([], 0), 0) := by decide +kernel
theorem knG2 : RunG (bl (strOfNums [0, 239, 1, 139, 139, 2, 149, 5, 7, 10])) = (([⟨1, 0, 0, 0, 0⟩, ⟨2, 10, 0, 0, 0⟩, ⟨4, 0, 0, 0, 0⟩], 100), 0) := by decide +kernel
theorem knG3 : RunG (bl (strOfNums [1, 2, 149, 9, 139, 139, 2, 139, 8, 5, 10])) = (([⟨1, 0, 0, 0, 0⟩, ⟨2, 10, 0, 0, 0⟩], 0), 0) := by decide +kernel
/-- Run, its answer known. -/
theorem Run_is {p : ByteArray} {L : List Sg} {wd er : Int} {n : Nat} (w : World) (hp : p.size ≤ 1000000) (hr : RunG (bl p) = ((L, wd), er)) (hn : L.length = n) :
    Calls Try.prog 6 #[.string p] w fun e w' => ∃ (A : Option Addr) (c : Nat), e = .returned (.tuple #[.slice A n c, .int .i64 wd, .int .i64 er]) ∧ Sl w' 5 A n (sgs L) ∧ Below w.heap.size w w' := by
  refine (Run_any p w hp).mono ?_; rintro e w' ⟨L', wd', er', A, n', c, rfl, hr', hn', _, _, hs, _, hb⟩
  rw [hr] at hr'
  simp only [Prod.mk.injEq] at hr'
  obtain ⟨⟨rfl, rfl⟩, rfl⟩ := hr'
  rw [hn] at hn'
  subst hn'
  exact ⟨A, c, rfl, hs, hb⟩

set_option maxRecDepth 100000 in
set_option maxHeartbeats 2000000 in
theorem known40_any (w : World) : Calls Try.prog 4 #[] w fun e w' => e = .returned (.bool true) ∧ Below w.heap.size w w' := by
  have k1 : ∀ W : World, (convert 36 9 (.slice (some ⟨W.heap.size, 0, none⟩) 10 10)).run Try.prog (W.alloc (.cells #[.int .u8 0, .int .u8 239, .int .u8 1, .int .u8 139, .int .u8 139, .int .u8 2, .int .u8 149, .int .u8 5, .int .u8 7, .int .u8 10] 5)) = .ok (.string (strOfNums [0, 239, 1, 139, 139, 2, 149, 5, 7, 10])) (W.alloc (.cells #[.int .u8 0, .int .u8 239, .int .u8 1, .int .u8 139, .int .u8 139, .int .u8 2, .int .u8 149, .int .u8 5, .int .u8 7, .int .u8 10] 5)) := fun W => lit_str W [0, 239, 1, 139, 139, 2, 149, 5, 7, 10] 10 rfl
  have k2 : ∀ W : World, (convert 36 9 (.slice (some ⟨W.heap.size, 0, none⟩) 11 11)).run Try.prog (W.alloc (.cells #[.int .u8 1, .int .u8 2, .int .u8 149, .int .u8 9, .int .u8 139, .int .u8 139, .int .u8 2, .int .u8 139, .int .u8 8, .int .u8 5, .int .u8 10] 5)) = .ok (.string (strOfNums [1, 2, 149, 9, 139, 139, 2, 139, 8, 5, 10])) (W.alloc (.cells #[.int .u8 1, .int .u8 2, .int .u8 149, .int .u8 9, .int .u8 139, .int .u8 139, .int .u8 2, .int .u8 139, .int .u8 8, .int .u8 5, .int .u8 10] 5)) := fun W => lit_str W [1, 2, 149, 9, 139, 139, 2, 139, 8, 5, 10] 11 rfl
  go_enter Try.func4, Try.ntmps4
  go_wp2_with fail
  refine (Run_is (n := 0) _ (by decide) knG1 rfl).mono ?_; rintro e w1 ⟨A1, c1, rfl, -, hb1⟩
  go_wp2_with fail
  refine (Run_is (n := 3) _ (by decide) knG2 rfl).mono ?_; rintro e w2 ⟨A2, c2, rfl, hs2, hb2⟩
  go_wp2_with fail
  refine (Run_is (n := 2) _ (by decide) knG3 rfl).mono ?_; rintro e w3 ⟨A3, c3, rfl, hs3, hb3⟩
  have B3 := btr (bal (btr (bal hb1 _) hb2) _) hb3
  have hs2' := hs2.below (btr (bal (Below.refl _ _) _) hb3)
  clear hb1 hb2 hb3 hs2 k1 k2
  go_wp2_with fail
  refine (sameSg_any _ _ 3 3 _ _ [⟨1, 0, 0, 0, 0⟩, ⟨2, 10, 0, 0, 0⟩, ⟨4, 0, 0, 0, 0⟩] _ (by omega) (hs2'.below (bal (Below.refl _ _) _)) (sl_newN (sgs [⟨1, 0, 0, 0, 0⟩, ⟨2, 10, 0, 0, 0⟩, ⟨4, 0, 0, 0, 0⟩]) rfl rfl)).mono ?_; rintro e w4 ⟨rfl, q4, rfl⟩
  have hs3' := hs3.below (bdrewN (bal (Below.refl _ _) (.cells #[.int .i64 1, .int .i64 0, .int .i64 0, .int .i64 0, .int .i64 0, .int .i64 2, .int .i64 10, .int .i64 0, .int .i64 0, .int .i64 0, .int .i64 4, .int .i64 0, .int .i64 0, .int .i64 0, .int .i64 0] 33)) q4)
  go_wp2_with fail
  refine (sameSg_any _ _ 2 2 _ _ [⟨1, 0, 0, 0, 0⟩, ⟨2, 10, 0, 0, 0⟩] _ (by omega) (hs3'.below (bal (Below.refl _ _) _)) (sl_newN (sgs [⟨1, 0, 0, 0, 0⟩, ⟨2, 10, 0, 0, 0⟩]) (by simp) rfl)).mono ?_; rintro e w5 ⟨rfl, q5, rfl⟩
  go_wp2_with fail
  go_ret
  exact ⟨rfl, by repeat (first | with_reducible exact B3 | with_reducible refine bdrewN ?_ _ | with_reducible refine bal ?_ _)⟩
end Go.Proofs.Ytoehkfinchnadaa
