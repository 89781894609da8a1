/- state: within, may, isRule; path.May of paths of any length; obj.May of a Dict. -/
import Derived.Test.YtaphmonpdnbiiaaMMay
import Derived.Test.YtaphmonpdnbiiaaMat4
import Derived.Test.YtaphmonpdnbiiaaCls
import Derived.Test.YtaphmonpdnbiiaaRec
import Derived.BigRegion
namespace Go.Proofs.Ytaphmonpdnbiiaa
open Go.RowKit Go.BigFrame

theorem inB_fix (v : Int) : inB v (-1073741823) 1073741823 = fixB v := rfl
theorem all_take {α : Type} (f : α → Bool) (zs : List α) (k : Nat) (h : k < zs.length) : (zs.take (k + 1)).all f = ((zs.take k).all f && f zs[k]) := by
  rw [List.take_succ_eq_append_getElem h, List.all_append, List.all_cons, List.all_nil, Bool.and_true]
theorem all_out {α : Type} (f : α → Bool) (zs : List α) (k : Nat) (h : k < zs.length) (hc : f zs[k] = false) : zs.all f = false := by
  rw [List.all_eq_false]
  exact ⟨zs[k], List.getElem_mem h, by simp [hc]⟩
/-- path.May, whatever the length. -/
theorem pathMay_wide (A : Option Addr) (n c : Nat) (l : List Sg) (w : World) (hm : n ≤ 9223372036854775807) (h : Sl w 5 A n (sgs l)) :
    Calls Try.prog 12 #[.slice A n c] w fun e w' => e = .returned (.bool (mayB l)) ∧ Below w.heap.size w w' := by
  by_cases hn : n ≤ 1000000
  · exact path_May_any A n c l w hn h
  · have hl := h.sglen
    go_enter Try.func12, Try.ntmps12
    go_wp2
    go_step3
    go_wp2
    try rw [Exit.noGoto_ret]
    go_ret
    exact ⟨ret_bool (by simp [mayB]; omega), Below.refl _ _⟩

def obC (o : Ob) : List Value := [.int .i64 o.k, .bool o.ex, .int .i64 o.n, .int .i64 o.at_, .int .i64 o.ln, .string o.s]
def obv (o : Ob) : Value := .agg (obC o).toArray
end Go.Proofs.Ytaphmonpdnbiiaa
