/- tympanhelp.Own of numbers. -/
import Derived.Test.YtaadajadeemndaaOwnK
namespace Go.Proofs.Ytaadajadeemndaa
open Go.RowKit Go.BigFrame

set_option maxRecDepth 100000 in
set_option maxHeartbeats 4000000 in
theorem ownKInt_any (A : Option Addr) (n c : Nat) (l : List Int) (F : Int) (w : World) (h : Sl w 1 A n (ints l)) (hln : l.length = n) (hn : n ≤ 1000) :
    Calls Try.prog 15 #[.slice A n c, .int .i64 F] w fun e w' => ∃ g, w.heap.size ≤ g ∧ e = .returned (.slice (some ⟨g, 0, none⟩) n (n + 3)) ∧ BC w' g (ints (l ++ [F, F, F])) ∧ Below w.heap.size w w' := by
  obtain ⟨ht, i, z, hi, hz, hsize, hby, hzs, -, hbb⟩ := ownIntT
  have HL := Lib.hid hln
  have HS := Lib.hid h
  clear hln h
  go_enter Try.func15, Try.ntmps15
  go_wp2_with (first
    | (at_make; refine wpList_make_room _ rfl _ _ 30 rfl 3 i z ht hi hz _ _ _ (n + 3) rfl rfl (by omega) (by rw [hby]; omega) (by omega) ?_; intro cur hcur)
    | (at_builtin; refine wpList_app_room rfl _ _ 30 rfl ownIntT rfl rfl (HS.out.below (bal (Below.refl _ _) _)) (oneCell_ints _) (BC.new cur.toList 3 rfl) (by rw [Array.length_toList, hcur, hsize]; omega) (by omega) ?_)
    | fail)
  have hxl := HS.out.1
  have hcl : cur.toList.length = n + 3 := by rw [Array.length_toList, hcur, hsize]; omega
  have hBC : BC (w.alloc (.cells cur 3)) w.heap.size cur.toList := by have := BC.new (w := w) (g := w.heap.size) cur.toList 3 rfl; simpa using this
  have hB1 := hBC.range_set 0 (ints l) (by rw [hcl]; omega)
  have b1 := below_setCells (Nat.le_refl w.heap.size) (ints l) 0 _ (bal (Below.refl w.heap.size w) (.cells cur 3))
  obtain ⟨w1, hw1⟩ : ∃ w1, w1 = (w.alloc (.cells cur 3)).setCells w.heap.size 0 (ints l) := ⟨_, rfl⟩
  rw [← hw1] at hB1 b1 ⊢
  clear hw1 hBC
  simp only [List.take_zero, List.nil_append, Nat.zero_add] at hB1
  have hdl : (cur.toList.drop (ints l).length).length = 3 := by rw [List.length_drop, hcl, hxl]; omega
  obtain ⟨R0, hR0⟩ : ∃ R0, cur.toList.drop (ints l).length = R0 := ⟨_, rfl⟩
  rw [hR0] at hB1 hdl
  clear hcl hcur hR0
  go_loopw [7] (fun s7 wr => ∃ (m k : Nat) (R : List Value), n ≤ m ∧ m ≤ n + 3 ∧ s7 = .int .i64 (m : Int) ∧ Hid (m = n + k ∧ R.length = 3 - k) ∧ Hid (BC wr w.heap.size (ints (l ++ List.replicate k F) ++ R)) ∧ Below w.heap.size w wr) (fun s7 _ => n + 3 - (intOf s7).toNat)
  case atStart => exact ⟨n, 0, R0, Nat.le_refl _, by omega, rfl, Lib.hid ⟨rfl, hdl⟩, Lib.hid (by simpa using hB1), b1⟩
  case round =>
    obtain ⟨m, k, R, hm1, hm2, rfl, hmk, hB, hb⟩ := hrel
    by_cases hlt : m < n + 3
    · have hXl : (ints (l ++ List.replicate k F)).length = m := by
        simp only [ints, List.length_map, List.length_append, List.length_replicate]; rw [HL.out, ← hmk.out.1]
      have hRl := hmk.out.2
      have hk3 : k < 3 := by have := hmk.out.1; omega
      obtain ⟨u, R', rfl⟩ : ∃ u R', R = u :: R' := by
        cases R with
        | nil => simp at hRl; omega
        | cons u R' => exact ⟨u, R', rfl⟩
      have c0 : wr.cell? ⟨w.heap.size, m, none⟩ = some u := hB.out.c m u (by rw [List.getElem?_append_right (by omega), hXl, Nat.sub_self]; rfl)
      have f0 := hB.out.nf m
      have hset := hB.out.set m (.int .i64 F) (by rw [List.length_append, hXl]; simp)
      have e1 : (ints (l ++ List.replicate k F) ++ u :: R').set m (.int .i64 F) = ints (l ++ List.replicate (k + 1) F) ++ R' := by
        rw [List.set_append_right _ _ (by omega), hXl, Nat.sub_self, List.set_cons_zero, List.replicate_succ', ← List.append_assoc l]
        simp [ints]
      rw [e1] at hset
      have HS2 := Lib.hid hset
      have HRR := Lib.hid (show R'.length = 3 - (k + 1) by simp at hRl; omega)
      clear e1 hset hRl hXl hk3
      go_wp2_with fail
      go_roundw
      case rel => exact ⟨m + 1, k + 1, R', by omega, by omega, by go_num, Lib.hid ⟨by rw [hmk.out.1]; omega, HRR.out⟩, HS2, bset hb (Nat.le_refl _) _⟩
      case measure => simp [intOf]; omega
    · have hk3 : k = 3 := by have := hmk.out.1; omega
      have hR0 : R = [] := List.eq_nil_of_length_eq_zero (by rw [hmk.out.2, hk3])
      have HB := Lib.hid (show BC wr w.heap.size (ints (l ++ [F, F, F])) by
        have := hB.out
        rw [hR0, hk3, List.append_nil] at this
        exact this)
      clear hk3 hR0
      go_wp2_with fail
      go_ret
      exact ⟨w.heap.size, Nat.le_refl _, rfl, HB.out, hb⟩
end Go.Proofs.Ytaadajadeemndaa
