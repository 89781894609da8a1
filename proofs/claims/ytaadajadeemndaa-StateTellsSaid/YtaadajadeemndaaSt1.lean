/- state: within, may, isRule; path.May of paths of any length; obj.May of a Dict. -/
import Derived.Test.YtaadajadeemndaaMay2
import Derived.Test.YtaadajadeemndaaMat4
import Derived.Test.YtaadajadeemndaaCls
import Derived.Test.YtaadajadeemndaaRec
import Derived.BigRegion
namespace Go.Proofs.Ytaadajadeemndaa
open Go.RowKit Go.BigFrame

set_option maxRecDepth 100000 in
theorem stWithin_any (v lo hi : Int) (w : World) : Calls Try.prog 71 #[.int .i64 v, .int .i64 lo, .int .i64 hi] w fun e w' => e = .returned (.bool (inB v lo hi)) ∧ w = w' := by
  have hs : inB v lo hi = (decide (v ≥ lo) && decide (v ≤ hi)) := rfl
  rw [hs]
  clear hs
  go_enter Try.func71, Try.ntmps71
  go_wp2
  all_goals
    go_ret
    refine ⟨?_, rfl⟩
    first | (simp_all; done) | (simp_all; omega)
set_option maxRecDepth 100000 in
theorem objWithin_any (v lo hi : Int) (w : World) : Calls Try.prog 111 #[.int .i64 v, .int .i64 lo, .int .i64 hi] w fun e w' => e = .returned (.bool (inB v lo hi)) ∧ w = w' := by
  have hs : inB v lo hi = (decide (v ≥ lo) && decide (v ≤ hi)) := rfl
  rw [hs]
  clear hs
  go_enter Try.func111, Try.ntmps111
  go_wp2
  all_goals
    go_ret
    refine ⟨?_, rfl⟩
    first | (simp_all; done) | (simp_all; omega)
theorem inB_fix (v : Int) : inB v (-1073741823) 1073741823 = fixB v := rfl
set_option maxRecDepth 100000 in
theorem stIsRule_any (v : Int) (w : World) : Calls Try.prog 43 #[.int .i64 v] w fun e w' => e = .returned (.bool (ruleB v)) ∧ w = w' := by
  have hs : ruleB v = (v == 0 || v == 1) := rfl
  rw [hs]
  clear hs
  go_enter Try.func43, Try.ntmps43
  go_wp2
  all_goals
    go_ret
    refine ⟨?_, rfl⟩
    first | rfl | (simp_all; done) | (simp_all; omega)
theorem all_take {α : Type} (f : α → Bool) (zs : List α) (k : Nat) (h : k < zs.length) : (zs.take (k + 1)).all f = ((zs.take k).all f && f zs[k]) := by
  rw [List.take_succ_eq_append_getElem h, List.all_append, List.all_cons, List.all_nil, Bool.and_true]
theorem all_out {α : Type} (f : α → Bool) (zs : List α) (k : Nat) (h : k < zs.length) (hc : f zs[k] = false) : zs.all f = false := by
  rw [List.all_eq_false]
  exact ⟨zs[k], List.getElem_mem h, by simp [hc]⟩
set_option maxHeartbeats 400000 in
theorem stmay_any (A : Option Addr) (n c : Nat) (zs : List Int) (w : World) (hm : n ≤ 1000000) (h : Sl w 1 A n (ints zs)) :
    Calls Try.prog 53 #[.slice A n c] w fun e w' => e = .returned (.bool (zs.all fixB)) ∧ w = w' := by
  have hl : zs.length = n := by have := h.1; simpa [ints] using this
  go_enter Try.func53, Try.ntmps53
  go_wp2
  go_loop [7] (fun i => ∃ k : Nat, k ≤ n ∧ i = .int .i64 k ∧ Hid ((zs.take k).all fixB = true)) (fun i => n - (intOf i).toNat)
  case atStart => exact ⟨0, Nat.zero_le _, rfl, by simp [Hid]⟩
  case round =>
    obtain ⟨k, hk, rfl, hn⟩ := hrel
    by_cases hlt : k < n
    · obtain ⟨b, off, rfl, hb, hc⟩ := h.2 (by omega)
      obtain ⟨z, hz⟩ : ∃ z, z = zs[k]'(by omega) := ⟨_, rfl⟩
      have hx : w.cell? ⟨b, off + k, none⟩ = some (.int .i64 z) := hc k _ (by simp [ints, hz, List.getElem?_eq_getElem (show k < zs.length by omega)])
      have HZ := Lib.hid hz
      clear hc hz
      go_wp2_with fail
      refine (stWithin_any z _ _ _).mono ?_; rintro e w' ⟨rfl, rfl⟩
      rw [inB_fix]
      cases hf : fixB z
      · go_wp2_with fail
        go_ret; refine ⟨ret_bool ?_, rfl⟩; rw [all_out fixB zs k (by omega) (by rw [← HZ.out]; exact hf)]
      · go_wp2_with fail
        go_round
        case rel => exact ⟨k + 1, by omega, by go_num, by show List.all _ _ = true; rw [all_take fixB zs k (by omega), hn.out, ← HZ.out, hf]; rfl⟩
        case measure => simp [intOf]; omega
    · go_wp2
      go_ret
      refine ⟨ret_bool ?_, rfl⟩
      have := hn.out
      rw [List.take_of_length_le (by omega)] at this
      exact this.symm
/-- path.May, whatever the length. -/
theorem pathMay_wide (A : Option Addr) (n c : Nat) (l : List Sg) (w : World) (hm : n ≤ 9223372036854775807) (h : Sl w 5 A n (sgs l)) :
    Calls Try.prog 70 #[.slice A n c] w fun e w' => e = .returned (.bool (mayB l)) ∧ Below w.heap.size w w' := by
  by_cases hn : n ≤ 1000000
  · exact path_May_any A n c l w hn h
  · have hl := h.sglen
    go_enter Try.func70, Try.ntmps70
    go_wp2
    go_step3
    go_wp2
    try rw [Exit.noGoto_ret]
    go_ret
    exact ⟨ret_bool (by simp [mayB]; omega), Below.refl _ _⟩

def obC (o : Ob) : List Value := [.int .i64 o.k, .bool o.ex, .int .i64 o.n, .int .i64 o.at_, .int .i64 o.ln, .string o.s]
def obv (o : Ob) : Value := .agg (obC o).toArray
theorem obT : RecT Try.prog 32 6 := ⟨_, Try.underlying32, rfl, by kernel_rfl⟩
end Go.Proofs.Ytaadajadeemndaa
