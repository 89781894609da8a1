/- turn: sines of quarters; mat.Spin of quarters. -/
import Derived.Test.YtaphmonpdnbiiaaMatA
import Derived.Test.YtaphmonpdnbiiaaMFp
import Derived.Great.BuildSlice
namespace Go.Proofs.Ytaphmonpdnbiiaa
open Go.RowKit Go.BigFrame

def sinT : List Int := [0, 1144, 2287, 3430, 4572, 5712, 6850, 7987, 9121, 10252, 11380, 12505, 13626, 14742, 15855, 16962, 18064, 19161, 20252, 21336,
  22415, 23486, 24550, 25607, 26656, 27697, 28729, 29753, 30767, 31772, 32768, 33754, 34729, 35693, 36647, 37590, 38521, 39441, 40348, 41243,
  42126, 42995, 43852, 44695, 45525, 46341, 47143, 47930, 48703, 49461, 50203, 50931, 51643, 52339, 53020, 53684, 54332, 54963, 55578, 56175,
  56756, 57319, 57865, 58393, 58903, 59396, 59870, 60326, 60764, 61183, 61584, 61966, 62328, 62672, 62997, 63303, 63589, 63856, 64104, 64332,
  64540, 64729, 64898, 65048, 65177, 65287, 65376, 65446, 65496, 65526, 65536]
def sinC : List Value := sinT.map (Value.int .i64)
theorem sinA : RecT Try.prog 94 91 := ⟨_, Try.underlying94, rfl, by kernel_rfl⟩
theorem sinC_one : ∀ v ∈ sinC, v.oneCell' = true := by
  intro v hv
  simp only [sinC, List.mem_map] at hv
  obtain ⟨z, _, rfl⟩ := hv; rfl
/-- A new block into which the table is written. -/
theorem put_sin {W : World} (cs : Array Value) (t : TypeId) (h : cs = (List.replicate 91 (Value.int .i64 0)).toArray) : BC (W.alloc (.cells cs t)) W.heap.size (List.replicate 91 (Value.int .i64 0)) ∧
    BC ((W.alloc (.cells cs t)).setCells W.heap.size 0 sinC) W.heap.size sinC ∧ Below W.heap.size W ((W.alloc (.cells cs t)).setCells W.heap.size 0 sinC) := by
  subst h
  have b := BC.new (w := W) (g := W.heap.size) (List.replicate 91 (Value.int .i64 0)) t rfl
  exact ⟨b, b.putAll _ (by decide), below_setCells (Nat.le_refl _) _ _ _ (bal (Below.refl _ _) _)⟩
set_option maxRecDepth 100000 in
set_option maxHeartbeats 4000000 in
theorem sine0_any (w : World) : Calls Try.prog 33 #[.int .i64 0] w fun e w' => e = .returned (.int .i64 0) ∧ Below w.heap.size w w' := by
  have HP := Lib.hid fun cs h => put_sin (W := w) cs 94 h
  go_enter Try.func33, Try.ntmps33
  go_upto_region 1 with (fail)
  go_upto_region 2 with (first
    | (refine wpList_buildTo rfl _ _ rfl (some 8) rfl sinC.toArray (by kernel_rfl) ?_)
    | (refine wpList_store_rec rfl _ _ _ rfl w.heap.size sinC _ rfl rfl 91 sinA (HP.out _ (by kernel_rfl)).1 (by kernel_rfl) (by kernel_rfl) sinC_one ?_)
    | fail)
  obtain ⟨w1, hw1, hF, hB⟩ : ∃ w1, w1 = (w.alloc (.cells Try.zeroCells94 94)).setCells w.heap.size 0 sinC ∧ BC w1 w.heap.size sinC ∧ Below w.heap.size w w1 :=
    ⟨_, rfl, (HP.out _ (by kernel_rfl)).2.1, (HP.out _ (by kernel_rfl)).2.2⟩
  rw [← hw1]
  have a0 := hF.c 0 (.int .i64 0) (by kernel_rfl)
  clear hw1 hF HP
  go_wp2
  go_ret
  exact ⟨rfl, hB⟩
set_option maxRecDepth 100000 in
set_option maxHeartbeats 4000000 in
theorem sine90_any (w : World) : Calls Try.prog 33 #[.int .i64 5898240] w fun e w' => e = .returned (.int .i64 65536) ∧ Below w.heap.size w w' := by
  have HP := Lib.hid fun cs h => put_sin (W := w) cs 94 h
  go_enter Try.func33, Try.ntmps33
  go_upto_region 1 with (fail)
  go_upto_region 2 with (first
    | (refine wpList_buildTo rfl _ _ rfl (some 8) rfl sinC.toArray (by kernel_rfl) ?_)
    | (refine wpList_store_rec rfl _ _ _ rfl w.heap.size sinC _ rfl rfl 91 sinA (HP.out _ (by kernel_rfl)).1 (by kernel_rfl) (by kernel_rfl) sinC_one ?_)
    | fail)
  obtain ⟨w1, hw1, hF, hB⟩ : ∃ w1, w1 = (w.alloc (.cells Try.zeroCells94 94)).setCells w.heap.size 0 sinC ∧ BC w1 w.heap.size sinC ∧ Below w.heap.size w w1 :=
    ⟨_, rfl, (HP.out _ (by kernel_rfl)).2.1, (HP.out _ (by kernel_rfl)).2.2⟩
  rw [← hw1]
  have a0 := hF.c 90 (.int .i64 65536) (by kernel_rfl)
  clear hw1 hF HP
  go_wp2
  go_ret
  exact ⟨rfl, hB⟩
/-- What is brought to the first turn. -/
theorem brought_any (d : Int) (w : World) (h : 0 ≤ d ∧ d < 23592960) : Calls Try.prog 32 #[.int .i64 d] w fun e w' => e = .returned (.int .i64 d) ∧ w = w' := by
  have e1 : d.tmod 23592960 = d := by rw [Int.tmod_eq_emod_of_nonneg h.1]; omega
  have e2 : IntKind.i64.wrap d = d := IntWalk.i64_in _ (by omega)
  have e3 : decide (d < 0) = false := decide_eq_false (by omega)
  go_enter Try.func32, Try.ntmps32
  go_wp2
  go_ret
  exact ⟨rfl, rfl⟩
theorem brought_full (w : World) : Calls Try.prog 32 #[.int .i64 23592960] w fun e w' => e = .returned (.int .i64 0) ∧ w = w' := by
  go_enter Try.func32, Try.ntmps32
  go_wp2
  go_ret
  exact ⟨rfl, rfl⟩
set_option maxRecDepth 100000 in
theorem sin0_any (w : World) : Calls Try.prog 19 #[.int .i64 0] w fun e w' => e = .returned (.int .i64 0) ∧ Below w.heap.size w w' := by
  go_enter Try.func19, Try.ntmps19
  go_wp2_with fail
  refine (brought_any 0 _ (by omega)).mono ?_; rintro e w' ⟨rfl, rfl⟩
  go_wp2_with fail
  refine (sine0_any _).mono ?_; rintro e w1 ⟨rfl, b1⟩
  go_wp2_with fail
  go_ret
  exact ⟨rfl, b1⟩
set_option maxRecDepth 100000 in
theorem sin90_any (w : World) : Calls Try.prog 19 #[.int .i64 5898240] w fun e w' => e = .returned (.int .i64 65536) ∧ Below w.heap.size w w' := by
  go_enter Try.func19, Try.ntmps19
  go_wp2_with fail
  refine (brought_any 5898240 _ (by omega)).mono ?_; rintro e w' ⟨rfl, rfl⟩
  go_wp2_with fail
  refine (sine90_any _).mono ?_; rintro e w1 ⟨rfl, b1⟩
  go_wp2_with fail
  go_ret
  exact ⟨rfl, b1⟩
set_option maxRecDepth 100000 in
theorem sin180_any (w : World) : Calls Try.prog 19 #[.int .i64 11796480] w fun e w' => e = .returned (.int .i64 0) ∧ Below w.heap.size w w' := by
  go_enter Try.func19, Try.ntmps19
  go_wp2_with fail
  refine (brought_any 11796480 _ (by omega)).mono ?_; rintro e w' ⟨rfl, rfl⟩
  go_wp2_with fail
  refine (sine0_any _).mono ?_; rintro e w1 ⟨rfl, b1⟩
  go_wp2_with fail
  go_ret
  exact ⟨rfl, b1⟩
set_option maxRecDepth 100000 in
theorem sin270_any (w : World) : Calls Try.prog 19 #[.int .i64 17694720] w fun e w' => e = .returned (.int .i64 (-65536)) ∧ Below w.heap.size w w' := by
  go_enter Try.func19, Try.ntmps19
  go_wp2_with fail
  refine (brought_any 17694720 _ (by omega)).mono ?_; rintro e w' ⟨rfl, rfl⟩
  go_wp2_with fail
  refine (sin90_any _).mono ?_; rintro e w1 ⟨rfl, b1⟩
  go_wp2_with fail
  go_ret
  exact ⟨rfl, b1⟩
set_option maxRecDepth 100000 in
theorem sin360_any (w : World) : Calls Try.prog 19 #[.int .i64 23592960] w fun e w' => e = .returned (.int .i64 0) ∧ Below w.heap.size w w' := by
  go_enter Try.func19, Try.ntmps19
  go_wp2_with fail
  refine (brought_full _).mono ?_; rintro e w' ⟨rfl, rfl⟩
  go_wp2_with fail
  refine (sine0_any _).mono ?_; rintro e w1 ⟨rfl, b1⟩
  go_wp2_with fail
  go_ret
  exact ⟨rfl, b1⟩
set_option maxRecDepth 100000 in
theorem cos0_any (w : World) : Calls Try.prog 20 #[.int .i64 0] w fun e w' => e = .returned (.int .i64 65536) ∧ Below w.heap.size w w' := by
  go_enter Try.func20, Try.ntmps20
  go_wp2_with fail
  refine (brought_any 0 _ (by omega)).mono ?_; rintro e w' ⟨rfl, rfl⟩
  go_wp2_with fail
  refine (sin90_any _).mono ?_; rintro e w1 ⟨rfl, b1⟩
  go_wp2_with fail
  go_ret
  exact ⟨rfl, b1⟩
set_option maxRecDepth 100000 in
theorem cos90_any (w : World) : Calls Try.prog 20 #[.int .i64 5898240] w fun e w' => e = .returned (.int .i64 0) ∧ Below w.heap.size w w' := by
  go_enter Try.func20, Try.ntmps20
  go_wp2_with fail
  refine (brought_any 5898240 _ (by omega)).mono ?_; rintro e w' ⟨rfl, rfl⟩
  go_wp2_with fail
  refine (sin180_any _).mono ?_; rintro e w1 ⟨rfl, b1⟩
  go_wp2_with fail
  go_ret
  exact ⟨rfl, b1⟩
set_option maxRecDepth 100000 in
theorem cos180_any (w : World) : Calls Try.prog 20 #[.int .i64 11796480] w fun e w' => e = .returned (.int .i64 (-65536)) ∧ Below w.heap.size w w' := by
  go_enter Try.func20, Try.ntmps20
  go_wp2_with fail
  refine (brought_any 11796480 _ (by omega)).mono ?_; rintro e w' ⟨rfl, rfl⟩
  go_wp2_with fail
  refine (sin270_any _).mono ?_; rintro e w1 ⟨rfl, b1⟩
  go_wp2_with fail
  go_ret
  exact ⟨rfl, b1⟩
set_option maxRecDepth 100000 in
theorem cos270_any (w : World) : Calls Try.prog 20 #[.int .i64 17694720] w fun e w' => e = .returned (.int .i64 0) ∧ Below w.heap.size w w' := by
  go_enter Try.func20, Try.ntmps20
  go_wp2_with fail
  refine (brought_any 17694720 _ (by omega)).mono ?_; rintro e w' ⟨rfl, rfl⟩
  go_wp2_with fail
  refine (sin360_any _).mono ?_; rintro e w1 ⟨rfl, b1⟩
  go_wp2_with fail
  go_ret
  exact ⟨rfl, b1⟩
/-- Cosines and sines of quarters. -/
def cq : Nat → Int | 0 => 1 | 1 => 0 | 2 => -1 | _ => 0
def dq : Nat → Int | 0 => 0 | 1 => 1 | 2 => 0 | _ => -1
theorem Sin_q (k : Nat) (hk : k < 4) (w : World) : Calls Try.prog 19 #[.int .i64 (5898240 * k)] w fun e w' => e = .returned (.int .i64 (dq k * 65536)) ∧ Below w.heap.size w w' := by
  rcases (show k = 0 ∨ k = 1 ∨ k = 2 ∨ k = 3 by omega) with rfl | rfl | rfl | rfl
  · exact sin0_any w
  · exact sin90_any w
  · exact sin180_any w
  · exact sin270_any w
theorem Cos_q (k : Nat) (hk : k < 4) (w : World) : Calls Try.prog 20 #[.int .i64 (5898240 * k)] w fun e w' => e = .returned (.int .i64 (cq k * 65536)) ∧ Below w.heap.size w w' := by
  rcases (show k = 0 ∨ k = 1 ∨ k = 2 ∨ k = 3 by omega) with rfl | rfl | rfl | rfl
  · exact cos0_any w
  · exact cos90_any w
  · exact cos180_any w
  · exact cos270_any w
theorem cq_bd (k : Nat) : Bd 1 (cq k) := by unfold Bd cq; split <;> omega
theorem dq_bd (k : Nat) : Bd 1 (dq k) := by unfold Bd dq; split <;> omega
set_option maxRecDepth 100000 in
set_option maxHeartbeats 1000000 in
theorem Spin_q (k : Nat) (hk : k < 4) (w : World) : Calls Try.prog 8 #[.int .i64 (5898240 * k)] w fun e w' => e = .returned (mtv (wholeM (cq k) (dq k) (-(dq k)) (cq k) 0 0)) ∧ Below w.heap.size w w' := by
  have HS := Lib.hid fun W => Sin_q k hk W
  have HC := Lib.hid fun W => Cos_q k hk W
  have hc := cq_bd k
  have hd := dq_bd k
  obtain ⟨c, hcc⟩ : ∃ c, cq k = c := ⟨_, rfl⟩
  obtain ⟨d, hdd⟩ : ∃ d, dq k = d := ⟨_, rfl⟩
  obtain ⟨g, hg⟩ : ∃ g : Int, 5898240 * (k : Int) = g := ⟨_, rfl⟩
  rw [hcc] at hc HC ⊢
  rw [hdd] at hd HS ⊢
  rw [hg] at HS HC ⊢
  clear hcc hdd hg hk
  have e1 : IntKind.i64.wrap (-(d * 65536)) = -d * 65536 := by rw [← Int.neg_mul]; exact IntWalk.i64_in _ (by unfold Bd at *; omega)
  obtain ⟨w0, hw0⟩ : ∃ w0 : World, w0 = w.alloc (.cells (mtC zeroM).toArray 25) := ⟨_, rfl⟩
  have hB0 : Below w.heap.size w w0 := by rw [hw0]; exact bal (Below.refl _ _) _
  have hZ : BC w0 w.heap.size (mtC zeroM) := by rw [hw0]; exact BC.new (mtC zeroM) 25 rfl
  have hz6 : (mtC zeroM).toArray = #[.int .i64 0, .int .i64 0, .int .i64 0, .int .i64 0, .int .i64 0, .int .i64 0] := rfl
  rw [hz6] at hw0
  clear hz6 hc hd
  go_enter Try.func8, Try.ntmps8
  go_upto_region 1 with (fail)
  rw [← hw0]
  clear hw0
  go_wp2_with fail
  refine (HS.out _).mono ?_; rintro e w1 ⟨rfl, b1⟩
  go_wp2_with fail
  refine (HC.out _).mono ?_; rintro e w2 ⟨rfl, b2⟩
  have hB := btr (btr hB0 b1) b2
  have hZ2 := (hZ.below b1).below b2
  have hF := hZ2.putAll (mtC (wholeM c d (-d) c 0 0)) rfl
  have hFB := below_setCells (Nat.le_refl w.heap.size) (mtC (wholeM c d (-d) c 0 0)) 0 _ hB
  clear HS HC b1 b2 hB hB0 hZ
  go_wp2_with (first
    | (refine wpList_store_rec rfl _ _ _ rfl w.heap.size (mtC (wholeM c d (-d) c 0 0)) _ rfl rfl 6 matT2 hZ2 rfl rfl (mtC_oneR _) ?_)
    | fail)
  refine bodyPost_ret (result_rec1 rfl rfl matT2 hF rfl) rfl ?_
  exact ⟨rfl, hFB⟩
end Go.Proofs.Ytaphmonpdnbiiaa
