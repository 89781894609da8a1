/-
  No cell of these rows narrows 'for every input' (looked for: loops, veiled, ifaces, maps, wideKeys, modest, calm, conditions, laid).
  DERIVED. THE GIVEN ROWS OF THIS SEAT. 8 by the template 'for every input the law returns true; each argument reads behind the call as it read before'; 0 by the template 'total and deterministic' (their statements: YtacolepcpbhceaaTotals.lean).
  GIVEN WITH THE SEED: the statements are not yours to turn. If you find one false, say at which input.
  Laid BY PROGRAM, IN A SANDBOX (cutbox-rows.mjs): the forced cells as the released guide's own fill.sh prints them over the translation 98afa3d8299e0c60… (all of the seat's roots in one cut). By AI agents, Wed Nov 11 2026. No macro, syntax, notation, axiom, sorry.
-/
import Derived.Test.YtacolepcpbhceaaChecked
import GoSem.Claim
import GoSem.ClaimJoined
import GoSem.ClaimMapViews
import Derived.JoinedTies
import Derived.KernelRfl
namespace Go.Proofs.Ytacolepcpbhceaa
/- THE CELL 'sum', in the pinned program and in every row, IS THE sha256 OF THE DUMP (.gsa) THAT YtacolepcpbhceaaProg.lean LOADS. Nothing in Lean hashes anything: it is a label: what it is worth is what the hold of that sum in a sandbox is worth. -/
noncomputable def Try.pinned : Pinned := { name := "ytacolepcpbhceaa", sum := "98afa3d8299e0c607c9623e2cca250b4938441ce4371796c7296d20e7743be1e", checked := Try.checked }
namespace Rows
def none {H : Type} : Left H := { results := [], args := [] }

/-- 'tympanlaw35.DashMade': WHATEVER THE INPUT: true; the input reads as it did. -/
def dashMadeSpec : ChangeSpec := { name := "dashMade", fn := fun _ => fun
  | [d1, d2, d3] => { results := [.lit (.bool true)], args := [d1, d2, d3] }
  | _ => none }
def dashMadeRow : OpenClaim := { program := "ytacolepcpbhceaa", sum := "98afa3d8299e0c607c9623e2cca250b4938441ce4371796c7296d20e7743be1e", func := "tympan/tympanlaw35.DashMade", spec := "dashMade", unfollowed := true, recurses := true, apart := false }
def DashMadeSaid : Prop := dashMadeRow.holds Try.pinned (OpenSpec.ofChange dashMadeSpec)

/-- ITS FALSE NEIGHBOUR: 'it returns false'. Refute it at one input. -/
def dashMadeWrong : ChangeSpec := { name := "dashMade", fn := fun _ => fun
  | [d1, d2, d3] => { results := [.lit (.bool false)], args := [d1, d2, d3] }
  | _ => none }
def DashMadeWrongFalsely : Prop := dashMadeRow.holds Try.pinned (OpenSpec.ofChange dashMadeWrong)

/-- 'tympanlaw35.DashNone': WHATEVER THE INPUT: true; the input reads as it did. -/
def dashNoneSpec : ChangeSpec := { name := "dashNone", fn := fun _ => fun
  | [d1, d2] => { results := [.lit (.bool true)], args := [d1, d2] }
  | _ => none }
def dashNoneRow : OpenClaim := { program := "ytacolepcpbhceaa", sum := "98afa3d8299e0c607c9623e2cca250b4938441ce4371796c7296d20e7743be1e", func := "tympan/tympanlaw35.DashNone", spec := "dashNone", unfollowed := true, recurses := true, apart := false }
def DashNoneSaid : Prop := dashNoneRow.holds Try.pinned (OpenSpec.ofChange dashNoneSpec)

/-- ITS FALSE NEIGHBOUR: 'it returns false'. Refute it at one input. -/
def dashNoneWrong : ChangeSpec := { name := "dashNone", fn := fun _ => fun
  | [d1, d2] => { results := [.lit (.bool false)], args := [d1, d2] }
  | _ => none }
def DashNoneWrongFalsely : Prop := dashNoneRow.holds Try.pinned (OpenSpec.ofChange dashNoneWrong)

/-- 'tympanlaw35.DashLevel': WHATEVER THE INPUT: true; the input reads as it did. -/
def dashLevelSpec : ChangeSpec := { name := "dashLevel", fn := fun _ => fun
  | [d1, d2, d3] => { results := [.lit (.bool true)], args := [d1, d2, d3] }
  | _ => none }
def dashLevelRow : OpenClaim := { program := "ytacolepcpbhceaa", sum := "98afa3d8299e0c607c9623e2cca250b4938441ce4371796c7296d20e7743be1e", func := "tympan/tympanlaw35.DashLevel", spec := "dashLevel", unfollowed := true, recurses := true, apart := false }
def DashLevelSaid : Prop := dashLevelRow.holds Try.pinned (OpenSpec.ofChange dashLevelSpec)

/-- ITS FALSE NEIGHBOUR: 'it returns false'. Refute it at one input. -/
def dashLevelWrong : ChangeSpec := { name := "dashLevel", fn := fun _ => fun
  | [d1, d2, d3] => { results := [.lit (.bool false)], args := [d1, d2, d3] }
  | _ => none }
def DashLevelWrongFalsely : Prop := dashLevelRow.holds Try.pinned (OpenSpec.ofChange dashLevelWrong)

/-- 'tympanlaw35.DashTurns': WHATEVER THE INPUT: true; the input reads as it did. -/
def dashTurnsSpec : ChangeSpec := { name := "dashTurns", fn := fun _ => fun
  | [d1, d2, d3, d4] => { results := [.lit (.bool true)], args := [d1, d2, d3, d4] }
  | _ => none }
def dashTurnsRow : OpenClaim := { program := "ytacolepcpbhceaa", sum := "98afa3d8299e0c607c9623e2cca250b4938441ce4371796c7296d20e7743be1e", func := "tympan/tympanlaw35.DashTurns", spec := "dashTurns", unfollowed := true, recurses := true, apart := false }
def DashTurnsSaid : Prop := dashTurnsRow.holds Try.pinned (OpenSpec.ofChange dashTurnsSpec)

/-- ITS FALSE NEIGHBOUR: 'it returns false'. Refute it at one input. -/
def dashTurnsWrong : ChangeSpec := { name := "dashTurns", fn := fun _ => fun
  | [d1, d2, d3, d4] => { results := [.lit (.bool false)], args := [d1, d2, d3, d4] }
  | _ => none }
def DashTurnsWrongFalsely : Prop := dashTurnsRow.holds Try.pinned (OpenSpec.ofChange dashTurnsWrong)

/-- 'tympanlaw35.DashSquare': WHATEVER THE INPUT: true; the input reads as it did. -/
def dashSquareSpec : ChangeSpec := { name := "dashSquare", fn := fun _ => fun
  | [d1, d2, d3, d4] => { results := [.lit (.bool true)], args := [d1, d2, d3, d4] }
  | _ => none }
def dashSquareRow : OpenClaim := { program := "ytacolepcpbhceaa", sum := "98afa3d8299e0c607c9623e2cca250b4938441ce4371796c7296d20e7743be1e", func := "tympan/tympanlaw35.DashSquare", spec := "dashSquare", unfollowed := true, recurses := true, apart := false }
def DashSquareSaid : Prop := dashSquareRow.holds Try.pinned (OpenSpec.ofChange dashSquareSpec)

/-- ITS FALSE NEIGHBOUR: 'it returns false'. Refute it at one input. -/
def dashSquareWrong : ChangeSpec := { name := "dashSquare", fn := fun _ => fun
  | [d1, d2, d3, d4] => { results := [.lit (.bool false)], args := [d1, d2, d3, d4] }
  | _ => none }
def DashSquareWrongFalsely : Prop := dashSquareRow.holds Try.pinned (OpenSpec.ofChange dashSquareWrong)

/-- 'tympanlaw35.DashBack': WHATEVER THE INPUT: true; the input reads as it did. -/
def dashBackSpec : ChangeSpec := { name := "dashBack", fn := fun _ => fun
  | [d1, d2, d3, d4] => { results := [.lit (.bool true)], args := [d1, d2, d3, d4] }
  | _ => none }
def dashBackRow : OpenClaim := { program := "ytacolepcpbhceaa", sum := "98afa3d8299e0c607c9623e2cca250b4938441ce4371796c7296d20e7743be1e", func := "tympan/tympanlaw35.DashBack", spec := "dashBack", unfollowed := true, recurses := true, apart := false }
def DashBackSaid : Prop := dashBackRow.holds Try.pinned (OpenSpec.ofChange dashBackSpec)

/-- ITS FALSE NEIGHBOUR: 'it returns false'. Refute it at one input. -/
def dashBackWrong : ChangeSpec := { name := "dashBack", fn := fun _ => fun
  | [d1, d2, d3, d4] => { results := [.lit (.bool false)], args := [d1, d2, d3, d4] }
  | _ => none }
def DashBackWrongFalsely : Prop := dashBackRow.holds Try.pinned (OpenSpec.ofChange dashBackWrong)

/-- 'tympanlaw35.DashStrokes': WHATEVER THE INPUT: true; the input reads as it did. -/
def dashStrokesSpec : ChangeSpec := { name := "dashStrokes", fn := fun _ => fun
  | [d1, d2, d3, d4, d5, d6, d7] => { results := [.lit (.bool true)], args := [d1, d2, d3, d4, d5, d6, d7] }
  | _ => none }
def dashStrokesRow : OpenClaim := { program := "ytacolepcpbhceaa", sum := "98afa3d8299e0c607c9623e2cca250b4938441ce4371796c7296d20e7743be1e", func := "tympan/tympanlaw35.DashStrokes", spec := "dashStrokes", unfollowed := true, recurses := true, apart := false }
def DashStrokesSaid : Prop := dashStrokesRow.holds Try.pinned (OpenSpec.ofChange dashStrokesSpec)

/-- ITS FALSE NEIGHBOUR: 'it returns false'. Refute it at one input. -/
def dashStrokesWrong : ChangeSpec := { name := "dashStrokes", fn := fun _ => fun
  | [d1, d2, d3, d4, d5, d6, d7] => { results := [.lit (.bool false)], args := [d1, d2, d3, d4, d5, d6, d7] }
  | _ => none }
def DashStrokesWrongFalsely : Prop := dashStrokesRow.holds Try.pinned (OpenSpec.ofChange dashStrokesWrong)

/-- 'tympanlaw35.DashFlat': WHATEVER THE INPUT: true; the input reads as it did. -/
def dashFlatSpec : ChangeSpec := { name := "dashFlat", fn := fun _ => fun
  | [d1, d2, d3] => { results := [.lit (.bool true)], args := [d1, d2, d3] }
  | _ => none }
def dashFlatRow : OpenClaim := { program := "ytacolepcpbhceaa", sum := "98afa3d8299e0c607c9623e2cca250b4938441ce4371796c7296d20e7743be1e", func := "tympan/tympanlaw35.DashFlat", spec := "dashFlat", unfollowed := true, recurses := true, apart := false }
def DashFlatSaid : Prop := dashFlatRow.holds Try.pinned (OpenSpec.ofChange dashFlatSpec)

/-- ITS FALSE NEIGHBOUR: 'it returns false'. Refute it at one input. -/
def dashFlatWrong : ChangeSpec := { name := "dashFlat", fn := fun _ => fun
  | [d1, d2, d3] => { results := [.lit (.bool false)], args := [d1, d2, d3] }
  | _ => none }
def DashFlatWrongFalsely : Prop := dashFlatRow.holds Try.pinned (OpenSpec.ofChange dashFlatWrong)

/- THE SECOND FORM. 'bulk': how many values and letters a reading holds, each counted each time it is reached (what is shared counts as often as it is met; a slice's spare places count too). A statement '..UptoSaid' is the law's where the arguments, and the package variables that the reading takes, are together of bulk at most 1048576: NARROWER than '..Said'. Prove '..Said' where nothing that the law and all that it calls make is longer than what came in: it says more and counts as full. Else prove '..UptoSaid'. A law counts once. -/
mutual
def uptoBulk {H : Type} : DataW H → Nat
  | .lit (.string bytes) => bytes.length + 1
  | .lit _ => 1
  | .nil => 1
  | .ptr d => uptoBulk d + 1
  | .slice elems spare => uptoBulkAll elems + uptoBulkAll spare + 1
  | .agg parts => uptoBulkAll parts + 1
  | .iface _ d => uptoBulk d + 1
  | .map entries => uptoBulkEntries entries + 1
  | .held _ => 1
def uptoBulkAll {H : Type} : List (DataW H) → Nat
  | [] => 0
  | d :: r => uptoBulk d + uptoBulkAll r
def uptoBulkEntries {H : Type} : List (Lit × DataW H) → Nat
  | [] => 0
  | x :: r => uptoBulkEntry x + uptoBulkEntries r
def uptoBulkEntry {H : Type} : Lit × DataW H → Nat
  | (.string bytes, d) => bytes.length + uptoBulk d + 1
  | (_, d) => uptoBulk d + 1
 end
def uptoSmall : (H : Type) → List (DataW H) → Bool := fun _ ds => decide (uptoBulkAll ds ≤ 1048576)
def OpenSpec.upto (s : _root_.Go.ChangeSpec) : _root_.Go.OpenSpec := { _root_.Go.OpenSpec.ofChange s with cond := some uptoSmall }

/-- 'tympanlaw35.DashMade', WHERE WHAT IT READS IS OF BULK AT MOST 1048576: true; the input reads as it did. -/
def dashMadeUptoRow : OpenClaim := { program := "ytacolepcpbhceaa", sum := "98afa3d8299e0c607c9623e2cca250b4938441ce4371796c7296d20e7743be1e", func := "tympan/tympanlaw35.DashMade", spec := "dashMade", unfollowed := true, recurses := true, apart := false, narrowed := true }
def DashMadeUptoSaid : Prop := dashMadeUptoRow.holds Try.pinned (OpenSpec.upto dashMadeSpec)

/-- 'tympanlaw35.DashNone', WHERE WHAT IT READS IS OF BULK AT MOST 1048576: true; the input reads as it did. -/
def dashNoneUptoRow : OpenClaim := { program := "ytacolepcpbhceaa", sum := "98afa3d8299e0c607c9623e2cca250b4938441ce4371796c7296d20e7743be1e", func := "tympan/tympanlaw35.DashNone", spec := "dashNone", unfollowed := true, recurses := true, apart := false, narrowed := true }
def DashNoneUptoSaid : Prop := dashNoneUptoRow.holds Try.pinned (OpenSpec.upto dashNoneSpec)

/-- 'tympanlaw35.DashLevel', WHERE WHAT IT READS IS OF BULK AT MOST 1048576: true; the input reads as it did. -/
def dashLevelUptoRow : OpenClaim := { program := "ytacolepcpbhceaa", sum := "98afa3d8299e0c607c9623e2cca250b4938441ce4371796c7296d20e7743be1e", func := "tympan/tympanlaw35.DashLevel", spec := "dashLevel", unfollowed := true, recurses := true, apart := false, narrowed := true }
def DashLevelUptoSaid : Prop := dashLevelUptoRow.holds Try.pinned (OpenSpec.upto dashLevelSpec)

/-- 'tympanlaw35.DashTurns', WHERE WHAT IT READS IS OF BULK AT MOST 1048576: true; the input reads as it did. -/
def dashTurnsUptoRow : OpenClaim := { program := "ytacolepcpbhceaa", sum := "98afa3d8299e0c607c9623e2cca250b4938441ce4371796c7296d20e7743be1e", func := "tympan/tympanlaw35.DashTurns", spec := "dashTurns", unfollowed := true, recurses := true, apart := false, narrowed := true }
def DashTurnsUptoSaid : Prop := dashTurnsUptoRow.holds Try.pinned (OpenSpec.upto dashTurnsSpec)

/-- 'tympanlaw35.DashSquare', WHERE WHAT IT READS IS OF BULK AT MOST 1048576: true; the input reads as it did. -/
def dashSquareUptoRow : OpenClaim := { program := "ytacolepcpbhceaa", sum := "98afa3d8299e0c607c9623e2cca250b4938441ce4371796c7296d20e7743be1e", func := "tympan/tympanlaw35.DashSquare", spec := "dashSquare", unfollowed := true, recurses := true, apart := false, narrowed := true }
def DashSquareUptoSaid : Prop := dashSquareUptoRow.holds Try.pinned (OpenSpec.upto dashSquareSpec)

/-- 'tympanlaw35.DashBack', WHERE WHAT IT READS IS OF BULK AT MOST 1048576: true; the input reads as it did. -/
def dashBackUptoRow : OpenClaim := { program := "ytacolepcpbhceaa", sum := "98afa3d8299e0c607c9623e2cca250b4938441ce4371796c7296d20e7743be1e", func := "tympan/tympanlaw35.DashBack", spec := "dashBack", unfollowed := true, recurses := true, apart := false, narrowed := true }
def DashBackUptoSaid : Prop := dashBackUptoRow.holds Try.pinned (OpenSpec.upto dashBackSpec)

/-- 'tympanlaw35.DashStrokes', WHERE WHAT IT READS IS OF BULK AT MOST 1048576: true; the input reads as it did. -/
def dashStrokesUptoRow : OpenClaim := { program := "ytacolepcpbhceaa", sum := "98afa3d8299e0c607c9623e2cca250b4938441ce4371796c7296d20e7743be1e", func := "tympan/tympanlaw35.DashStrokes", spec := "dashStrokes", unfollowed := true, recurses := true, apart := false, narrowed := true }
def DashStrokesUptoSaid : Prop := dashStrokesUptoRow.holds Try.pinned (OpenSpec.upto dashStrokesSpec)

/-- 'tympanlaw35.DashFlat', WHERE WHAT IT READS IS OF BULK AT MOST 1048576: true; the input reads as it did. -/
def dashFlatUptoRow : OpenClaim := { program := "ytacolepcpbhceaa", sum := "98afa3d8299e0c607c9623e2cca250b4938441ce4371796c7296d20e7743be1e", func := "tympan/tympanlaw35.DashFlat", spec := "dashFlat", unfollowed := true, recurses := true, apart := false, narrowed := true }
def DashFlatUptoSaid : Prop := dashFlatUptoRow.holds Try.pinned (OpenSpec.upto dashFlatSpec)

end Rows
end Go.Proofs.Ytacolepcpbhceaa
