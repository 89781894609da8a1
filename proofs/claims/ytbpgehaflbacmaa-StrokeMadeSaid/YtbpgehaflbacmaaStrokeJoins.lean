/- The walk of StrokeJoins: it returns true. -/
import Derived.Test.YtbpgehaflbacmaaStroke6
import Derived.Test.YtbpgehaflbacmaaAllP
import Derived.Test.YtbpgehaflbacmaaAdd2
namespace Go.Proofs.Ytbpgehaflbacmaa
open Go.RowKit Go.BigFrame

/-- A stroke's answer for a style by a number, on a path by numbers. -/
theorem inL_made {l : List Sg} {s : Sy} {x y : Int} (hm : mayB l = true) (hb : ∀ t ∈ l, t.kind ≠ 3) (hw : 0 ≤ s.wide ∧ s.wide ≤ 2048) (hc : 0 ≤ s.cap ∧ s.cap ≤ 2) (hj : 0 ≤ s.join ∧ s.join ≤ 1) (hx : -8191 ≤ x ∧ x ≤ 8191) (hy : -8191 ≤ y ∧ y ≤ 8191) :
    inL l s x y = covL l s x y := inL_is hm hb (mayS_iff.2 ⟨hw.1, hw.2, hc.1, hc.2, hj.1, hj.2⟩) (co_iff.2 hx) (co_iff.2 hy)

theorem In_st {A : Option Addr} {n c : Nat} {l : List Sg} {wd cp jn x y : Int} {r : Bool} (w : World) (hr : inL l ⟨wd, cp, jn⟩ x y = r) (hn : n ≤ 1000000) (h : Sl w 5 A n (sgs l)) :
    Calls Try.prog 11 #[.slice A n c, .agg #[.int .i64 wd, .int .i64 cp, .int .i64 jn], .int .i64 x, .int .i64 y] w fun e w' => e = .returned (.bool r) ∧ Below w.heap.size w w' := by
  subst hr
  exact stroke_In_any A n c l ⟨wd, cp, jn⟩ x y w hn h

end Go.Proofs.Ytbpgehaflbacmaa
