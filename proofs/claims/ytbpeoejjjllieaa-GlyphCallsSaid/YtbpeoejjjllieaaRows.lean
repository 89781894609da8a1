/-
  No cell of these rows narrows 'for every input' (looked for: loops, veiled, ifaces, maps, wideKeys, modest, calm, conditions, laid).
  DERIVED. THE GIVEN ROWS OF THIS SEAT. 6 by the template 'for every input the law returns true; each argument reads behind the call as it read before'; 0 by the template 'total and deterministic' (their statements: YtbpeoejjjllieaaTotals.lean).
  GIVEN WITH THE SEED: the statements are not yours to turn. If you find one false, say at which input.
  Laid BY PROGRAM, IN A SANDBOX (cutbox-rows.mjs): the forced cells as the released guide's own fill.sh prints them over the translation 70c28a9c4b911175… (all of the seat's roots in one cut). By AI agents, Wed Nov 11 2026. No macro, syntax, notation, axiom, sorry.
-/
import Derived.Test.YtbpeoejjjllieaaChecked
import GoSem.Claim
import GoSem.ClaimJoined
import GoSem.ClaimMapViews
import Derived.JoinedTies
import Derived.KernelRfl
namespace Go.Proofs.Ytbpeoejjjllieaa
/- THE CELL 'sum', in the pinned program and in every row, IS THE sha256 OF THE DUMP (.gsa) THAT YtbpeoejjjllieaaProg.lean LOADS. Nothing in Lean hashes anything: it is a label: what it is worth is what the hold of that sum in a sandbox is worth. -/
noncomputable def Try.pinned : Pinned := { name := "ytbpeoejjjllieaa", sum := "70c28a9c4b911175d4684bfc09388441c0074113c93433940f805042c3978a96", checked := Try.checked }
namespace Rows
def none {H : Type} : Left H := { results := [], args := [] }

/-- 'tympanlaw40.GlyphNumbers': WHATEVER THE INPUT: true; the input reads as it did. -/
def glyphNumbersSpec : ChangeSpec := { name := "glyphNumbers", fn := fun _ => fun
  | [d] => { results := [.lit (.bool true)], args := [d] }
  | _ => none }
def glyphNumbersRow : OpenClaim := { program := "ytbpeoejjjllieaa", sum := "70c28a9c4b911175d4684bfc09388441c0074113c93433940f805042c3978a96", func := "tympan/tympanlaw40.GlyphNumbers", spec := "glyphNumbers", unfollowed := true, recurses := true, apart := false }
def GlyphNumbersSaid : Prop := glyphNumbersRow.holds Try.pinned (OpenSpec.ofChange glyphNumbersSpec)

/-- ITS FALSE NEIGHBOUR: 'it returns false'. Refute it at one input. -/
def glyphNumbersWrong : ChangeSpec := { name := "glyphNumbers", fn := fun _ => fun
  | [d] => { results := [.lit (.bool false)], args := [d] }
  | _ => none }
def GlyphNumbersWrongFalsely : Prop := glyphNumbersRow.holds Try.pinned (OpenSpec.ofChange glyphNumbersWrong)

/-- 'tympanlaw40.GlyphOps': WHATEVER THE INPUT: true; the input reads as it did. -/
def glyphOpsSpec : ChangeSpec := { name := "glyphOps", fn := fun _ => fun
  | [d] => { results := [.lit (.bool true)], args := [d] }
  | _ => none }
def glyphOpsRow : OpenClaim := { program := "ytbpeoejjjllieaa", sum := "70c28a9c4b911175d4684bfc09388441c0074113c93433940f805042c3978a96", func := "tympan/tympanlaw40.GlyphOps", spec := "glyphOps", unfollowed := true, recurses := true, apart := false }
def GlyphOpsSaid : Prop := glyphOpsRow.holds Try.pinned (OpenSpec.ofChange glyphOpsSpec)

/-- ITS FALSE NEIGHBOUR: 'it returns false'. Refute it at one input. -/
def glyphOpsWrong : ChangeSpec := { name := "glyphOps", fn := fun _ => fun
  | [d] => { results := [.lit (.bool false)], args := [d] }
  | _ => none }
def GlyphOpsWrongFalsely : Prop := glyphOpsRow.holds Try.pinned (OpenSpec.ofChange glyphOpsWrong)

/-- 'tympanlaw40.GlyphWrong': WHATEVER THE INPUT: true; the input reads as it did. -/
def glyphWrongSpec : ChangeSpec := { name := "glyphWrong", fn := fun _ => fun
  | [d1, d2] => { results := [.lit (.bool true)], args := [d1, d2] }
  | _ => none }
def glyphWrongRow : OpenClaim := { program := "ytbpeoejjjllieaa", sum := "70c28a9c4b911175d4684bfc09388441c0074113c93433940f805042c3978a96", func := "tympan/tympanlaw40.GlyphWrong", spec := "glyphWrong", unfollowed := true, recurses := true, apart := false }
def GlyphWrongSaid : Prop := glyphWrongRow.holds Try.pinned (OpenSpec.ofChange glyphWrongSpec)

/-- ITS FALSE NEIGHBOUR: 'it returns false'. Refute it at one input. -/
def glyphWrongWrong : ChangeSpec := { name := "glyphWrong", fn := fun _ => fun
  | [d1, d2] => { results := [.lit (.bool false)], args := [d1, d2] }
  | _ => none }
def GlyphWrongWrongFalsely : Prop := glyphWrongRow.holds Try.pinned (OpenSpec.ofChange glyphWrongWrong)

/-- 'tympanlaw40.GlyphBack': WHATEVER THE INPUT: true; the input reads as it did. -/
def glyphBackSpec : ChangeSpec := { name := "glyphBack", fn := fun _ => fun
  | [d1, d2, d3, d4] => { results := [.lit (.bool true)], args := [d1, d2, d3, d4] }
  | _ => none }
def glyphBackRow : OpenClaim := { program := "ytbpeoejjjllieaa", sum := "70c28a9c4b911175d4684bfc09388441c0074113c93433940f805042c3978a96", func := "tympan/tympanlaw40.GlyphBack", spec := "glyphBack", unfollowed := true, recurses := true, apart := false }
def GlyphBackSaid : Prop := glyphBackRow.holds Try.pinned (OpenSpec.ofChange glyphBackSpec)

/-- ITS FALSE NEIGHBOUR: 'it returns false'. Refute it at one input. -/
def glyphBackWrong : ChangeSpec := { name := "glyphBack", fn := fun _ => fun
  | [d1, d2, d3, d4] => { results := [.lit (.bool false)], args := [d1, d2, d3, d4] }
  | _ => none }
def GlyphBackWrongFalsely : Prop := glyphBackRow.holds Try.pinned (OpenSpec.ofChange glyphBackWrong)

/-- 'tympanlaw40.GlyphCalls': WHATEVER THE INPUT: true; the input reads as it did. -/
def glyphCallsSpec : ChangeSpec := { name := "glyphCalls", fn := fun _ => fun
  | [d1, d2, d3] => { results := [.lit (.bool true)], args := [d1, d2, d3] }
  | _ => none }
def glyphCallsRow : OpenClaim := { program := "ytbpeoejjjllieaa", sum := "70c28a9c4b911175d4684bfc09388441c0074113c93433940f805042c3978a96", func := "tympan/tympanlaw40.GlyphCalls", spec := "glyphCalls", unfollowed := true, recurses := true, apart := false }
def GlyphCallsSaid : Prop := glyphCallsRow.holds Try.pinned (OpenSpec.ofChange glyphCallsSpec)

/-- ITS FALSE NEIGHBOUR: 'it returns false'. Refute it at one input. -/
def glyphCallsWrong : ChangeSpec := { name := "glyphCalls", fn := fun _ => fun
  | [d1, d2, d3] => { results := [.lit (.bool false)], args := [d1, d2, d3] }
  | _ => none }
def GlyphCallsWrongFalsely : Prop := glyphCallsRow.holds Try.pinned (OpenSpec.ofChange glyphCallsWrong)

/-- 'tympanlaw40.GlyphCuts': WHATEVER THE INPUT: true; the input reads as it did. -/
def glyphCutsSpec : ChangeSpec := { name := "glyphCuts", fn := fun _ => fun
  | [d1, d2, d3] => { results := [.lit (.bool true)], args := [d1, d2, d3] }
  | _ => none }
def glyphCutsRow : OpenClaim := { program := "ytbpeoejjjllieaa", sum := "70c28a9c4b911175d4684bfc09388441c0074113c93433940f805042c3978a96", func := "tympan/tympanlaw40.GlyphCuts", spec := "glyphCuts", unfollowed := true, recurses := true, apart := false }
def GlyphCutsSaid : Prop := glyphCutsRow.holds Try.pinned (OpenSpec.ofChange glyphCutsSpec)

/-- ITS FALSE NEIGHBOUR: 'it returns false'. Refute it at one input. -/
def glyphCutsWrong : ChangeSpec := { name := "glyphCuts", fn := fun _ => fun
  | [d1, d2, d3] => { results := [.lit (.bool false)], args := [d1, d2, d3] }
  | _ => none }
def GlyphCutsWrongFalsely : Prop := glyphCutsRow.holds Try.pinned (OpenSpec.ofChange glyphCutsWrong)

/- THE SECOND FORM. 'bulk': how many values and letters a reading holds, each counted each time it is reached (what is shared counts as often as it is met; a slice's spare places count too). A statement '..UptoSaid' is the law's where the arguments, and the package variables that the reading takes, are together of bulk at most 1048576: NARROWER than '..Said'. Prove '..Said' where nothing that the law and all that it calls make is longer than what came in: it says more and counts as full. Else prove '..UptoSaid'. A law counts once. -/
mutual
def uptoBulk {H : Type} : DataW H → Nat
  | .lit (.string bytes) => bytes.length + 1
  | .lit _ => 1
  | .nil => 1
  | .ptr d => uptoBulk d + 1
  | .slice elems spare => uptoBulkAll elems + uptoBulkAll spare + 1
  | .agg parts => uptoBulkAll parts + 1
  | .iface _ d => uptoBulk d + 1
  | .map entries => uptoBulkEntries entries + 1
  | .held _ => 1
def uptoBulkAll {H : Type} : List (DataW H) → Nat
  | [] => 0
  | d :: r => uptoBulk d + uptoBulkAll r
def uptoBulkEntries {H : Type} : List (Lit × DataW H) → Nat
  | [] => 0
  | x :: r => uptoBulkEntry x + uptoBulkEntries r
def uptoBulkEntry {H : Type} : Lit × DataW H → Nat
  | (.string bytes, d) => bytes.length + uptoBulk d + 1
  | (_, d) => uptoBulk d + 1
 end
def uptoSmall : (H : Type) → List (DataW H) → Bool := fun _ ds => decide (uptoBulkAll ds ≤ 1048576)
def OpenSpec.upto (s : _root_.Go.ChangeSpec) : _root_.Go.OpenSpec := { _root_.Go.OpenSpec.ofChange s with cond := some uptoSmall }

/-- 'tympanlaw40.GlyphNumbers', WHERE WHAT IT READS IS OF BULK AT MOST 1048576: true; the input reads as it did. -/
def glyphNumbersUptoRow : OpenClaim := { program := "ytbpeoejjjllieaa", sum := "70c28a9c4b911175d4684bfc09388441c0074113c93433940f805042c3978a96", func := "tympan/tympanlaw40.GlyphNumbers", spec := "glyphNumbers", unfollowed := true, recurses := true, apart := false, narrowed := true }
def GlyphNumbersUptoSaid : Prop := glyphNumbersUptoRow.holds Try.pinned (OpenSpec.upto glyphNumbersSpec)

/-- 'tympanlaw40.GlyphOps', WHERE WHAT IT READS IS OF BULK AT MOST 1048576: true; the input reads as it did. -/
def glyphOpsUptoRow : OpenClaim := { program := "ytbpeoejjjllieaa", sum := "70c28a9c4b911175d4684bfc09388441c0074113c93433940f805042c3978a96", func := "tympan/tympanlaw40.GlyphOps", spec := "glyphOps", unfollowed := true, recurses := true, apart := false, narrowed := true }
def GlyphOpsUptoSaid : Prop := glyphOpsUptoRow.holds Try.pinned (OpenSpec.upto glyphOpsSpec)

/-- 'tympanlaw40.GlyphWrong', WHERE WHAT IT READS IS OF BULK AT MOST 1048576: true; the input reads as it did. -/
def glyphWrongUptoRow : OpenClaim := { program := "ytbpeoejjjllieaa", sum := "70c28a9c4b911175d4684bfc09388441c0074113c93433940f805042c3978a96", func := "tympan/tympanlaw40.GlyphWrong", spec := "glyphWrong", unfollowed := true, recurses := true, apart := false, narrowed := true }
def GlyphWrongUptoSaid : Prop := glyphWrongUptoRow.holds Try.pinned (OpenSpec.upto glyphWrongSpec)

/-- 'tympanlaw40.GlyphBack', WHERE WHAT IT READS IS OF BULK AT MOST 1048576: true; the input reads as it did. -/
def glyphBackUptoRow : OpenClaim := { program := "ytbpeoejjjllieaa", sum := "70c28a9c4b911175d4684bfc09388441c0074113c93433940f805042c3978a96", func := "tympan/tympanlaw40.GlyphBack", spec := "glyphBack", unfollowed := true, recurses := true, apart := false, narrowed := true }
def GlyphBackUptoSaid : Prop := glyphBackUptoRow.holds Try.pinned (OpenSpec.upto glyphBackSpec)

/-- 'tympanlaw40.GlyphCalls', WHERE WHAT IT READS IS OF BULK AT MOST 1048576: true; the input reads as it did. -/
def glyphCallsUptoRow : OpenClaim := { program := "ytbpeoejjjllieaa", sum := "70c28a9c4b911175d4684bfc09388441c0074113c93433940f805042c3978a96", func := "tympan/tympanlaw40.GlyphCalls", spec := "glyphCalls", unfollowed := true, recurses := true, apart := false, narrowed := true }
def GlyphCallsUptoSaid : Prop := glyphCallsUptoRow.holds Try.pinned (OpenSpec.upto glyphCallsSpec)

/-- 'tympanlaw40.GlyphCuts', WHERE WHAT IT READS IS OF BULK AT MOST 1048576: true; the input reads as it did. -/
def glyphCutsUptoRow : OpenClaim := { program := "ytbpeoejjjllieaa", sum := "70c28a9c4b911175d4684bfc09388441c0074113c93433940f805042c3978a96", func := "tympan/tympanlaw40.GlyphCuts", spec := "glyphCuts", unfollowed := true, recurses := true, apart := false, narrowed := true }
def GlyphCutsUptoSaid : Prop := glyphCutsUptoRow.holds Try.pinned (OpenSpec.upto glyphCutsSpec)

end Rows
end Go.Proofs.Ytbpeoejjjllieaa
