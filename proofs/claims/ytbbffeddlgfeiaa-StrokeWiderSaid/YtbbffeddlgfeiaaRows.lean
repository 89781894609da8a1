/-
  No cell of these rows narrows 'for every input' (looked for: loops, veiled, ifaces, maps, wideKeys, modest, calm, conditions, laid).
  DERIVED. THE GIVEN ROWS OF THIS SEAT. 6 by the template 'for every input the law returns true; each argument reads behind the call as it read before'; 0 by the template 'total and deterministic' (their statements: YtbbffeddlgfeiaaTotals.lean).
  GIVEN WITH THE SEED: the statements are not yours to turn. If you find one false, say at which input.
  Laid BY PROGRAM, IN A SANDBOX (cutbox-rows.mjs): the forced cells as the released guide's own fill.sh prints them over the translation 264ac9fe6d11df0e… (all of the seat's roots in one cut). By AI agents, Wed Nov 11 2026. No macro, syntax, notation, axiom, sorry.
-/
import Derived.Test.YtbbffeddlgfeiaaChecked
import GoSem.Claim
import GoSem.ClaimJoined
import GoSem.ClaimMapViews
import Derived.JoinedTies
import Derived.KernelRfl
namespace Go.Proofs.Ytbbffeddlgfeiaa
/- THE CELL 'sum', in the pinned program and in every row, IS THE sha256 OF THE DUMP (.gsa) THAT YtbbffeddlgfeiaaProg.lean LOADS. Nothing in Lean hashes anything: it is a label: what it is worth is what the hold of that sum in a sandbox is worth. -/
noncomputable def Try.pinned : Pinned := { name := "ytbbffeddlgfeiaa", sum := "264ac9fe6d11df0e6bb0286b365157deb43b073ce328226180b62c64612ce332", checked := Try.checked }
namespace Rows
def none {H : Type} : Left H := { results := [], args := [] }

/-- 'tympanlaw33.StrokeWider': WHATEVER THE INPUT: true; the input reads as it did. -/
def strokeWiderSpec : ChangeSpec := { name := "strokeWider", fn := fun _ => fun
  | [d1, d2, d3, d4, d5] => { results := [.lit (.bool true)], args := [d1, d2, d3, d4, d5] }
  | _ => none }
def strokeWiderRow : OpenClaim := { program := "ytbbffeddlgfeiaa", sum := "264ac9fe6d11df0e6bb0286b365157deb43b073ce328226180b62c64612ce332", func := "tympan/tympanlaw33.StrokeWider", spec := "strokeWider", unfollowed := true, recurses := true, apart := false }
def StrokeWiderSaid : Prop := strokeWiderRow.holds Try.pinned (OpenSpec.ofChange strokeWiderSpec)

/-- ITS FALSE NEIGHBOUR: 'it returns false'. Refute it at one input. -/
def strokeWiderWrong : ChangeSpec := { name := "strokeWider", fn := fun _ => fun
  | [d1, d2, d3, d4, d5] => { results := [.lit (.bool false)], args := [d1, d2, d3, d4, d5] }
  | _ => none }
def StrokeWiderWrongFalsely : Prop := strokeWiderRow.holds Try.pinned (OpenSpec.ofChange strokeWiderWrong)

/-- 'tympanlaw33.StrokeUpright': WHATEVER THE INPUT: true; the input reads as it did. -/
def strokeUprightSpec : ChangeSpec := { name := "strokeUpright", fn := fun _ => fun
  | [d1, d2, d3, d4, d5] => { results := [.lit (.bool true)], args := [d1, d2, d3, d4, d5] }
  | _ => none }
def strokeUprightRow : OpenClaim := { program := "ytbbffeddlgfeiaa", sum := "264ac9fe6d11df0e6bb0286b365157deb43b073ce328226180b62c64612ce332", func := "tympan/tympanlaw33.StrokeUpright", spec := "strokeUpright", unfollowed := true, recurses := true, apart := false }
def StrokeUprightSaid : Prop := strokeUprightRow.holds Try.pinned (OpenSpec.ofChange strokeUprightSpec)

/-- ITS FALSE NEIGHBOUR: 'it returns false'. Refute it at one input. -/
def strokeUprightWrong : ChangeSpec := { name := "strokeUpright", fn := fun _ => fun
  | [d1, d2, d3, d4, d5] => { results := [.lit (.bool false)], args := [d1, d2, d3, d4, d5] }
  | _ => none }
def StrokeUprightWrongFalsely : Prop := strokeUprightRow.holds Try.pinned (OpenSpec.ofChange strokeUprightWrong)

/-- 'tympanlaw33.StrokeMiddles': WHATEVER THE INPUT: true; the input reads as it did. -/
def strokeMiddlesSpec : ChangeSpec := { name := "strokeMiddles", fn := fun _ => fun
  | [d1, d2, d3, d4, d5] => { results := [.lit (.bool true)], args := [d1, d2, d3, d4, d5] }
  | _ => none }
def strokeMiddlesRow : OpenClaim := { program := "ytbbffeddlgfeiaa", sum := "264ac9fe6d11df0e6bb0286b365157deb43b073ce328226180b62c64612ce332", func := "tympan/tympanlaw33.StrokeMiddles", spec := "strokeMiddles", unfollowed := true, recurses := true, apart := false }
def StrokeMiddlesSaid : Prop := strokeMiddlesRow.holds Try.pinned (OpenSpec.ofChange strokeMiddlesSpec)

/-- ITS FALSE NEIGHBOUR: 'it returns false'. Refute it at one input. -/
def strokeMiddlesWrong : ChangeSpec := { name := "strokeMiddles", fn := fun _ => fun
  | [d1, d2, d3, d4, d5] => { results := [.lit (.bool false)], args := [d1, d2, d3, d4, d5] }
  | _ => none }
def StrokeMiddlesWrongFalsely : Prop := strokeMiddlesRow.holds Try.pinned (OpenSpec.ofChange strokeMiddlesWrong)

/-- 'tympanlaw33.StrokeWithin': WHATEVER THE INPUT: true; the input reads as it did. -/
def strokeWithinSpec : ChangeSpec := { name := "strokeWithin", fn := fun _ => fun
  | [d1, d2, d3, d4] => { results := [.lit (.bool true)], args := [d1, d2, d3, d4] }
  | _ => none }
def strokeWithinRow : OpenClaim := { program := "ytbbffeddlgfeiaa", sum := "264ac9fe6d11df0e6bb0286b365157deb43b073ce328226180b62c64612ce332", func := "tympan/tympanlaw33.StrokeWithin", spec := "strokeWithin", unfollowed := true, recurses := true, apart := false }
def StrokeWithinSaid : Prop := strokeWithinRow.holds Try.pinned (OpenSpec.ofChange strokeWithinSpec)

/-- ITS FALSE NEIGHBOUR: 'it returns false'. Refute it at one input. -/
def strokeWithinWrong : ChangeSpec := { name := "strokeWithin", fn := fun _ => fun
  | [d1, d2, d3, d4] => { results := [.lit (.bool false)], args := [d1, d2, d3, d4] }
  | _ => none }
def StrokeWithinWrongFalsely : Prop := strokeWithinRow.holds Try.pinned (OpenSpec.ofChange strokeWithinWrong)

/-- 'tympanlaw33.StrokeJoins': WHATEVER THE INPUT: true; the input reads as it did. -/
def strokeJoinsSpec : ChangeSpec := { name := "strokeJoins", fn := fun _ => fun
  | [d1, d2, d3, d4, d5] => { results := [.lit (.bool true)], args := [d1, d2, d3, d4, d5] }
  | _ => none }
def strokeJoinsRow : OpenClaim := { program := "ytbbffeddlgfeiaa", sum := "264ac9fe6d11df0e6bb0286b365157deb43b073ce328226180b62c64612ce332", func := "tympan/tympanlaw33.StrokeJoins", spec := "strokeJoins", unfollowed := true, recurses := true, apart := false }
def StrokeJoinsSaid : Prop := strokeJoinsRow.holds Try.pinned (OpenSpec.ofChange strokeJoinsSpec)

/-- ITS FALSE NEIGHBOUR: 'it returns false'. Refute it at one input. -/
def strokeJoinsWrong : ChangeSpec := { name := "strokeJoins", fn := fun _ => fun
  | [d1, d2, d3, d4, d5] => { results := [.lit (.bool false)], args := [d1, d2, d3, d4, d5] }
  | _ => none }
def StrokeJoinsWrongFalsely : Prop := strokeJoinsRow.holds Try.pinned (OpenSpec.ofChange strokeJoinsWrong)

/-- 'tympanlaw33.StrokeBack': WHATEVER THE INPUT: true; the input reads as it did. -/
def strokeBackSpec : ChangeSpec := { name := "strokeBack", fn := fun _ => fun
  | [d1, d2, d3, d4, d5, d6] => { results := [.lit (.bool true)], args := [d1, d2, d3, d4, d5, d6] }
  | _ => none }
def strokeBackRow : OpenClaim := { program := "ytbbffeddlgfeiaa", sum := "264ac9fe6d11df0e6bb0286b365157deb43b073ce328226180b62c64612ce332", func := "tympan/tympanlaw33.StrokeBack", spec := "strokeBack", unfollowed := true, recurses := true, apart := false }
def StrokeBackSaid : Prop := strokeBackRow.holds Try.pinned (OpenSpec.ofChange strokeBackSpec)

/-- ITS FALSE NEIGHBOUR: 'it returns false'. Refute it at one input. -/
def strokeBackWrong : ChangeSpec := { name := "strokeBack", fn := fun _ => fun
  | [d1, d2, d3, d4, d5, d6] => { results := [.lit (.bool false)], args := [d1, d2, d3, d4, d5, d6] }
  | _ => none }
def StrokeBackWrongFalsely : Prop := strokeBackRow.holds Try.pinned (OpenSpec.ofChange strokeBackWrong)

/- THE SECOND FORM. 'bulk': how many values and letters a reading holds, each counted each time it is reached (what is shared counts as often as it is met; a slice's spare places count too). A statement '..UptoSaid' is the law's where the arguments, and the package variables that the reading takes, are together of bulk at most 1048576: NARROWER than '..Said'. Prove '..Said' where nothing that the law and all that it calls make is longer than what came in: it says more and counts as full. Else prove '..UptoSaid'. A law counts once. -/
mutual
def uptoBulk {H : Type} : DataW H → Nat
  | .lit (.string bytes) => bytes.length + 1
  | .lit _ => 1
  | .nil => 1
  | .ptr d => uptoBulk d + 1
  | .slice elems spare => uptoBulkAll elems + uptoBulkAll spare + 1
  | .agg parts => uptoBulkAll parts + 1
  | .iface _ d => uptoBulk d + 1
  | .map entries => uptoBulkEntries entries + 1
  | .held _ => 1
def uptoBulkAll {H : Type} : List (DataW H) → Nat
  | [] => 0
  | d :: r => uptoBulk d + uptoBulkAll r
def uptoBulkEntries {H : Type} : List (Lit × DataW H) → Nat
  | [] => 0
  | x :: r => uptoBulkEntry x + uptoBulkEntries r
def uptoBulkEntry {H : Type} : Lit × DataW H → Nat
  | (.string bytes, d) => bytes.length + uptoBulk d + 1
  | (_, d) => uptoBulk d + 1
 end
def uptoSmall : (H : Type) → List (DataW H) → Bool := fun _ ds => decide (uptoBulkAll ds ≤ 1048576)
def OpenSpec.upto (s : _root_.Go.ChangeSpec) : _root_.Go.OpenSpec := { _root_.Go.OpenSpec.ofChange s with cond := some uptoSmall }

/-- 'tympanlaw33.StrokeWider', WHERE WHAT IT READS IS OF BULK AT MOST 1048576: true; the input reads as it did. -/
def strokeWiderUptoRow : OpenClaim := { program := "ytbbffeddlgfeiaa", sum := "264ac9fe6d11df0e6bb0286b365157deb43b073ce328226180b62c64612ce332", func := "tympan/tympanlaw33.StrokeWider", spec := "strokeWider", unfollowed := true, recurses := true, apart := false, narrowed := true }
def StrokeWiderUptoSaid : Prop := strokeWiderUptoRow.holds Try.pinned (OpenSpec.upto strokeWiderSpec)

/-- 'tympanlaw33.StrokeUpright', WHERE WHAT IT READS IS OF BULK AT MOST 1048576: true; the input reads as it did. -/
def strokeUprightUptoRow : OpenClaim := { program := "ytbbffeddlgfeiaa", sum := "264ac9fe6d11df0e6bb0286b365157deb43b073ce328226180b62c64612ce332", func := "tympan/tympanlaw33.StrokeUpright", spec := "strokeUpright", unfollowed := true, recurses := true, apart := false, narrowed := true }
def StrokeUprightUptoSaid : Prop := strokeUprightUptoRow.holds Try.pinned (OpenSpec.upto strokeUprightSpec)

/-- 'tympanlaw33.StrokeMiddles', WHERE WHAT IT READS IS OF BULK AT MOST 1048576: true; the input reads as it did. -/
def strokeMiddlesUptoRow : OpenClaim := { program := "ytbbffeddlgfeiaa", sum := "264ac9fe6d11df0e6bb0286b365157deb43b073ce328226180b62c64612ce332", func := "tympan/tympanlaw33.StrokeMiddles", spec := "strokeMiddles", unfollowed := true, recurses := true, apart := false, narrowed := true }
def StrokeMiddlesUptoSaid : Prop := strokeMiddlesUptoRow.holds Try.pinned (OpenSpec.upto strokeMiddlesSpec)

/-- 'tympanlaw33.StrokeWithin', WHERE WHAT IT READS IS OF BULK AT MOST 1048576: true; the input reads as it did. -/
def strokeWithinUptoRow : OpenClaim := { program := "ytbbffeddlgfeiaa", sum := "264ac9fe6d11df0e6bb0286b365157deb43b073ce328226180b62c64612ce332", func := "tympan/tympanlaw33.StrokeWithin", spec := "strokeWithin", unfollowed := true, recurses := true, apart := false, narrowed := true }
def StrokeWithinUptoSaid : Prop := strokeWithinUptoRow.holds Try.pinned (OpenSpec.upto strokeWithinSpec)

/-- 'tympanlaw33.StrokeJoins', WHERE WHAT IT READS IS OF BULK AT MOST 1048576: true; the input reads as it did. -/
def strokeJoinsUptoRow : OpenClaim := { program := "ytbbffeddlgfeiaa", sum := "264ac9fe6d11df0e6bb0286b365157deb43b073ce328226180b62c64612ce332", func := "tympan/tympanlaw33.StrokeJoins", spec := "strokeJoins", unfollowed := true, recurses := true, apart := false, narrowed := true }
def StrokeJoinsUptoSaid : Prop := strokeJoinsUptoRow.holds Try.pinned (OpenSpec.upto strokeJoinsSpec)

/-- 'tympanlaw33.StrokeBack', WHERE WHAT IT READS IS OF BULK AT MOST 1048576: true; the input reads as it did. -/
def strokeBackUptoRow : OpenClaim := { program := "ytbbffeddlgfeiaa", sum := "264ac9fe6d11df0e6bb0286b365157deb43b073ce328226180b62c64612ce332", func := "tympan/tympanlaw33.StrokeBack", spec := "strokeBack", unfollowed := true, recurses := true, apart := false, narrowed := true }
def StrokeBackUptoSaid : Prop := strokeBackUptoRow.holds Try.pinned (OpenSpec.upto strokeBackSpec)

end Rows
end Go.Proofs.Ytbbffeddlgfeiaa
