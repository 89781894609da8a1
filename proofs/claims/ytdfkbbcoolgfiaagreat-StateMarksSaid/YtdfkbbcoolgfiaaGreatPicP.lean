/- A picture as a mark. -/
import Derived.Test.YtdfkbbcoolgfiaaGreatMStp
import Derived.Test.YtdfkbbcoolgfiaaGreatImg
import Derived.Test.YtdfkbbcoolgfiaaGreatMMul
import Derived.Test.YtdfkbbcoolgfiaaGreatMSm
import Derived.Test.YtdfkbbcoolgfiaaGreatMHp
namespace Go.Proofs.YtdfkbbcoolgfiaaGreat
open Go.RowKit Go.BigFrame

theorem imT : RecT Tryz.prog 34 4 := ⟨_, Tryz.underlying34, rfl, by kernel_rfl⟩
/-- A picture as a mark. -/
def picI (x : St) (i : Im) (q : Mt) (mask : Bool) : It := ⟨if mask then 4 else 3, [], 0, 0, 0, 0, i.w, i.h, i.b, i.d, q, if mask then x.r else 0, if mask then x.g else 0, if mask then x.b else 0, if mask then x.a else 0, x.cl⟩
def picS (x : St) (i : Im) (m : Mt) (mask : Bool) : It × Int :=
  if (mayS x && imB i && mtB m && !(mask && !(i.b == 1))) = false then (zeroI, 1) else if (mulB m x.m).2 ≠ 0 then (zeroI, (mulB m x.m).2) else if detM (mulB m x.m).1 = 0 then (zeroI, 14) else (picI x i (mulB m x.m).1 mask, 0)
theorem mulB_may {m n : Mt} (h : (mulB m n).2 = 0) : mtB (mulB m n).1 = true := by
  unfold mulB at h ⊢
  split at h
  · rename_i hmn
    rw [if_pos hmn]
    rw [Bool.and_eq_true] at hmn
    rw [mul_held hmn.1 hmn.2] at h ⊢
    unfold heldM at h ⊢
    split at h
    · rename_i hp; rw [if_pos hp]; exact hp
    · cases h
  · cases h
/-- A picture painted, or put as a mask. -/
def picB (x : St) (i : Im) (q : Mt) : It := ⟨3, [], 0, 0, 0, 0, i.w, i.h, i.b, i.d, q, 0, 0, 0, 0, x.cl⟩
def picK (x : St) (i : Im) (q : Mt) : It := ⟨4, [], 0, 0, 0, 0, i.w, i.h, i.b, i.d, q, x.r, x.g, x.b, x.a, x.cl⟩
theorem picI_no (x : St) (i : Im) (q : Mt) : picI x i q false = picB x i q := rfl
theorem picI_yes (x : St) (i : Im) (q : Mt) : picI x i q true = picK x i q := rfl
def inkC (x : St) : List Value := [.int .u8 x.r, .int .u8 x.g, .int .u8 x.b, .int .u8 x.a]
theorem picK_set (x : St) (i : Im) (q : Mt) (P C : Value) : (((((itC (picB x i q) P C).set 0 (.int .i64 4)).set 16 (.int .u8 x.r)).set 17 (.int .u8 x.g)).set 18 (.int .u8 x.b)).set 19 (.int .u8 x.a) = itC (picK x i q) P C := rfl
theorem picK_set2 (x : St) (i : Im) (q : Mt) (P C : Value) : (((((itC (picB x i q) P C).set 16 (.int .u8 x.r)).set 17 (.int .u8 x.g)).set 18 (.int .u8 x.b)).set 19 (.int .u8 x.a)).set 0 (.int .i64 4) = itC (picK x i q) P C := rfl
theorem BC.setInk {w : World} {g : Nat} {C : List Value} (h : BC w g C) (hl : C.length = 21) (x : St) : BC (w.setCells g 16 (inkC x)) g ((((C.set 16 (.int .u8 x.r)).set 17 (.int .u8 x.g)).set 18 (.int .u8 x.b)).set 19 (.int .u8 x.a)) :=
  (((h.set 16 (.int .u8 x.r) (by omega)).set 17 (.int .u8 x.g) (by simp; omega)).set 18 (.int .u8 x.b) (by simp; omega)).set 19 (.int .u8 x.a) (by simp; omega)
theorem inkC_one (x : St) : ∀ v ∈ inkC x, v.oneCell' = true := by
  intro v hv
  simp only [inkC, List.mem_cons, List.not_mem_nil, or_false] at hv
  rcases hv with rfl | rfl | rfl | rfl <;> rfl
theorem inkT : RecT Tryz.prog 27 4 := ⟨_, Tryz.underlying27, rfl, by kernel_rfl⟩
theorem yieldsIf_rec {P : Program} {ops : Array Oper} {S : World → Prop} {op : Oper} {a : Act} (hw : Region.wanted op (yielded ops a.tmps) = true) (t : TypeId) (x : Operand) (ho : op.op = .load t x)
    (g : Nat) (hx : a.eval x = .pointer (some ⟨g, 0, none⟩)) (C : List Value) (n : Nat) (hT : RecT P t n) (hS : ∀ W, S W → BC W g C) (hn : C.length = n) : YieldsIf P ops S op (.agg C.toArray) a := by
  obtain ⟨d, hu, hd, hi⟩ := hT
  exact yieldsIf_load_mid hw t x ho g 0 hx C d (fun W hW => (hS W hW).range) hu hd (by rw [hi, hn])
theorem ink_range {w : World} {g : Nat} {x : St} {P C D : Value} (h : BC w g (stC x P C D)) : w.rangeAt g 8 (inkC x) := by
  intro j v hv
  refine h.c (8 + j) v ?_
  have hj : j < (inkC x).length := (List.getElem?_eq_some_iff.1 hv).1
  have : j = 0 ∨ j = 1 ∨ j = 2 ∨ j = 3 := by have : (inkC x).length = 4 := rfl; omega
  rcases this with rfl | rfl | rfl | rfl <;> exact hv
theorem yieldsIf_ink {P : Program} {ops : Array Oper} {S : World → Prop} {op : Oper} {a : Act} (hw : Region.wanted op (yielded ops a.tmps) = true) (t : TypeId) (y : Operand) (ho : op.op = .load t y)
    (g : Nat) (hx : a.eval y = .pointer (some ⟨g, 8, none⟩)) (x : St) (Pv C D : Value) (hT : RecT P t 4) (hS : ∀ W, S W → BC W g (stC x Pv C D)) : YieldsIf P ops S op (.agg (inkC x).toArray) a := by
  obtain ⟨d, hu, hd, hi⟩ := hT
  exact yieldsIf_load_mid hw t y ho g 8 hx (inkC x) d (fun W hW => ink_range (hS W hW)) hu hd (by rw [hi]; rfl)
theorem detM_in {M : Mt} (h : mtB M = true) : IntKind.i64.wrap (M.a * M.d) = M.a * M.d ∧ IntKind.i64.wrap (M.b * M.c) = M.b * M.c ∧ IntKind.i64.wrap (M.a * M.d - M.b * M.c) = detM M := by
  obtain ⟨f1, f2, f3, f4, _, _⟩ := mtB_fix h
  have p1 := mul_fix f1 f4
  have p2 := mul_fix f2 f3
  exact ⟨IntWalk.i64_in _ (by omega), IntWalk.i64_in _ (by omega), IntWalk.i64_in _ (by omega)⟩
end Go.Proofs.YtdfkbbcoolgfiaaGreat
