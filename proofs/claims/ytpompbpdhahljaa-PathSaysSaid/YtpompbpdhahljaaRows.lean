/-
  No cell of these rows narrows 'for every input' (looked for: loops, veiled, ifaces, maps, wideKeys, modest, calm, conditions, laid).
  DERIVED. THE GIVEN ROWS OF THIS SEAT. 13 by the template 'for every input the law returns true; each argument reads behind the call as it read before'; 0 by the template 'total and deterministic' (their statements: YtpompbpdhahljaaTotals.lean).
  GIVEN WITH THE SEED: the statements are not yours to turn. If you find one false, say at which input.
  Laid BY PROGRAM, IN A SANDBOX (cutbox-rows.mjs): the forced cells as the released guide's own fill.sh prints them over the translation 77f82dd7ebe136de… (all of the seat's roots in one cut). By AI agents, Wed Nov 11 2026. No macro, syntax, notation, axiom, sorry.
-/
import Derived.Test.YtpompbpdhahljaaChecked
import GoSem.Claim
import GoSem.ClaimJoined
import GoSem.ClaimMapViews
import Derived.JoinedTies
import Derived.KernelRfl
namespace Go.Proofs.Ytpompbpdhahljaa
/- THE CELL 'sum', in the pinned program and in every row, IS THE sha256 OF THE DUMP (.gsa) THAT YtpompbpdhahljaaProg.lean LOADS. Nothing in Lean hashes anything: it is a label: what it is worth is what the hold of that sum in a sandbox is worth. -/
noncomputable def Try.pinned : Pinned := { name := "ytpompbpdhahljaa", sum := "77f82dd7ebe136de6da6821ed8bac492fe0749bb615750537a6e38bdd29de1db", checked := Try.checked }
namespace Rows
def none {H : Type} : Left H := { results := [], args := [] }

/-- 'tympanlaw27.FlatNear': WHATEVER THE INPUT: true; the input reads as it did. -/
def flatNearSpec : ChangeSpec := { name := "flatNear", fn := fun _ => fun
  | [d1, d2] => { results := [.lit (.bool true)], args := [d1, d2] }
  | _ => none }
def flatNearRow : OpenClaim := { program := "ytpompbpdhahljaa", sum := "77f82dd7ebe136de6da6821ed8bac492fe0749bb615750537a6e38bdd29de1db", func := "tympan/tympanlaw27.FlatNear", spec := "flatNear", unfollowed := true, recurses := true, apart := false }
def FlatNearSaid : Prop := flatNearRow.holds Try.pinned (OpenSpec.ofChange flatNearSpec)

/-- ITS FALSE NEIGHBOUR: 'it returns false'. Refute it at one input. -/
def flatNearWrong : ChangeSpec := { name := "flatNear", fn := fun _ => fun
  | [d1, d2] => { results := [.lit (.bool false)], args := [d1, d2] }
  | _ => none }
def FlatNearWrongFalsely : Prop := flatNearRow.holds Try.pinned (OpenSpec.ofChange flatNearWrong)

/-- 'tympanlaw27.FlatSays': WHATEVER THE INPUT: true; the input reads as it did. -/
def flatSaysSpec : ChangeSpec := { name := "flatSays", fn := fun _ => fun
  | [d1, d2] => { results := [.lit (.bool true)], args := [d1, d2] }
  | _ => none }
def flatSaysRow : OpenClaim := { program := "ytpompbpdhahljaa", sum := "77f82dd7ebe136de6da6821ed8bac492fe0749bb615750537a6e38bdd29de1db", func := "tympan/tympanlaw27.FlatSays", spec := "flatSays", unfollowed := true, recurses := true, apart := false }
def FlatSaysSaid : Prop := flatSaysRow.holds Try.pinned (OpenSpec.ofChange flatSaysSpec)

/-- ITS FALSE NEIGHBOUR: 'it returns false'. Refute it at one input. -/
def flatSaysWrong : ChangeSpec := { name := "flatSays", fn := fun _ => fun
  | [d1, d2] => { results := [.lit (.bool false)], args := [d1, d2] }
  | _ => none }
def FlatSaysWrongFalsely : Prop := flatSaysRow.holds Try.pinned (OpenSpec.ofChange flatSaysWrong)

/-- 'tympanlaw27.FlatMade': WHATEVER THE INPUT: true; the input reads as it did. -/
def flatMadeSpec : ChangeSpec := { name := "flatMade", fn := fun _ => fun
  | [d1, d2] => { results := [.lit (.bool true)], args := [d1, d2] }
  | _ => none }
def flatMadeRow : OpenClaim := { program := "ytpompbpdhahljaa", sum := "77f82dd7ebe136de6da6821ed8bac492fe0749bb615750537a6e38bdd29de1db", func := "tympan/tympanlaw27.FlatMade", spec := "flatMade", unfollowed := true, recurses := true, apart := false }
def FlatMadeSaid : Prop := flatMadeRow.holds Try.pinned (OpenSpec.ofChange flatMadeSpec)

/-- ITS FALSE NEIGHBOUR: 'it returns false'. Refute it at one input. -/
def flatMadeWrong : ChangeSpec := { name := "flatMade", fn := fun _ => fun
  | [d1, d2] => { results := [.lit (.bool false)], args := [d1, d2] }
  | _ => none }
def FlatMadeWrongFalsely : Prop := flatMadeRow.holds Try.pinned (OpenSpec.ofChange flatMadeWrong)

/-- 'tympanlaw27.FlatAgain': WHATEVER THE INPUT: true; the input reads as it did. -/
def flatAgainSpec : ChangeSpec := { name := "flatAgain", fn := fun _ => fun
  | [d] => { results := [.lit (.bool true)], args := [d] }
  | _ => none }
def flatAgainRow : OpenClaim := { program := "ytpompbpdhahljaa", sum := "77f82dd7ebe136de6da6821ed8bac492fe0749bb615750537a6e38bdd29de1db", func := "tympan/tympanlaw27.FlatAgain", spec := "flatAgain", unfollowed := true, recurses := true, apart := false }
def FlatAgainSaid : Prop := flatAgainRow.holds Try.pinned (OpenSpec.ofChange flatAgainSpec)

/-- ITS FALSE NEIGHBOUR: 'it returns false'. Refute it at one input. -/
def flatAgainWrong : ChangeSpec := { name := "flatAgain", fn := fun _ => fun
  | [d] => { results := [.lit (.bool false)], args := [d] }
  | _ => none }
def FlatAgainWrongFalsely : Prop := flatAgainRow.holds Try.pinned (OpenSpec.ofChange flatAgainWrong)

/-- 'tympanlaw25.PathJoins': WHATEVER THE INPUT: true; the input reads as it did. -/
def pathJoinsSpec : ChangeSpec := { name := "pathJoins", fn := fun _ => fun
  | [d1, d2] => { results := [.lit (.bool true)], args := [d1, d2] }
  | _ => none }
def pathJoinsRow : OpenClaim := { program := "ytpompbpdhahljaa", sum := "77f82dd7ebe136de6da6821ed8bac492fe0749bb615750537a6e38bdd29de1db", func := "tympan/tympanlaw25.PathJoins", spec := "pathJoins", apart := false }
def PathJoinsSaid : Prop := pathJoinsRow.holds Try.pinned (OpenSpec.ofChange pathJoinsSpec)

/-- ITS FALSE NEIGHBOUR: 'it returns false'. Refute it at one input. -/
def pathJoinsWrong : ChangeSpec := { name := "pathJoins", fn := fun _ => fun
  | [d1, d2] => { results := [.lit (.bool false)], args := [d1, d2] }
  | _ => none }
def PathJoinsWrongFalsely : Prop := pathJoinsRow.holds Try.pinned (OpenSpec.ofChange pathJoinsWrong)

/-- 'tympanlaw25.PathSays': WHATEVER THE INPUT: true; the input reads as it did. -/
def pathSaysSpec : ChangeSpec := { name := "pathSays", fn := fun _ => fun
  | [d] => { results := [.lit (.bool true)], args := [d] }
  | _ => none }
def pathSaysRow : OpenClaim := { program := "ytpompbpdhahljaa", sum := "77f82dd7ebe136de6da6821ed8bac492fe0749bb615750537a6e38bdd29de1db", func := "tympan/tympanlaw25.PathSays", spec := "pathSays", unfollowed := true, recurses := true, apart := false }
def PathSaysSaid : Prop := pathSaysRow.holds Try.pinned (OpenSpec.ofChange pathSaysSpec)

/-- ITS FALSE NEIGHBOUR: 'it returns false'. Refute it at one input. -/
def pathSaysWrong : ChangeSpec := { name := "pathSays", fn := fun _ => fun
  | [d] => { results := [.lit (.bool false)], args := [d] }
  | _ => none }
def PathSaysWrongFalsely : Prop := pathSaysRow.holds Try.pinned (OpenSpec.ofChange pathSaysWrong)

/-- 'tympanlaw25.PathBack': WHATEVER THE INPUT: true; the input reads as it did. -/
def pathBackSpec : ChangeSpec := { name := "pathBack", fn := fun _ => fun
  | [d] => { results := [.lit (.bool true)], args := [d] }
  | _ => none }
def pathBackRow : OpenClaim := { program := "ytpompbpdhahljaa", sum := "77f82dd7ebe136de6da6821ed8bac492fe0749bb615750537a6e38bdd29de1db", func := "tympan/tympanlaw25.PathBack", spec := "pathBack", unfollowed := true, recurses := true, apart := false }
def PathBackSaid : Prop := pathBackRow.holds Try.pinned (OpenSpec.ofChange pathBackSpec)

/-- ITS FALSE NEIGHBOUR: 'it returns false'. Refute it at one input. -/
def pathBackWrong : ChangeSpec := { name := "pathBack", fn := fun _ => fun
  | [d] => { results := [.lit (.bool false)], args := [d] }
  | _ => none }
def PathBackWrongFalsely : Prop := pathBackRow.holds Try.pinned (OpenSpec.ofChange pathBackWrong)

/-- 'tympanlaw25.PathRounds': WHATEVER THE INPUT: true; the input reads as it did. -/
def pathRoundsSpec : ChangeSpec := { name := "pathRounds", fn := fun _ => fun
  | [d] => { results := [.lit (.bool true)], args := [d] }
  | _ => none }
def pathRoundsRow : OpenClaim := { program := "ytpompbpdhahljaa", sum := "77f82dd7ebe136de6da6821ed8bac492fe0749bb615750537a6e38bdd29de1db", func := "tympan/tympanlaw25.PathRounds", spec := "pathRounds", unfollowed := true, recurses := true, apart := false }
def PathRoundsSaid : Prop := pathRoundsRow.holds Try.pinned (OpenSpec.ofChange pathRoundsSpec)

/-- ITS FALSE NEIGHBOUR: 'it returns false'. Refute it at one input. -/
def pathRoundsWrong : ChangeSpec := { name := "pathRounds", fn := fun _ => fun
  | [d] => { results := [.lit (.bool false)], args := [d] }
  | _ => none }
def PathRoundsWrongFalsely : Prop := pathRoundsRow.holds Try.pinned (OpenSpec.ofChange pathRoundsWrong)

/-- 'tympanlaw27.FlatBack': WHATEVER THE INPUT: true; the input reads as it did. -/
def flatBackSpec : ChangeSpec := { name := "flatBack", fn := fun _ => fun
  | [d] => { results := [.lit (.bool true)], args := [d] }
  | _ => none }
def flatBackRow : OpenClaim := { program := "ytpompbpdhahljaa", sum := "77f82dd7ebe136de6da6821ed8bac492fe0749bb615750537a6e38bdd29de1db", func := "tympan/tympanlaw27.FlatBack", spec := "flatBack", unfollowed := true, recurses := true, apart := false }
def FlatBackSaid : Prop := flatBackRow.holds Try.pinned (OpenSpec.ofChange flatBackSpec)

/-- ITS FALSE NEIGHBOUR: 'it returns false'. Refute it at one input. -/
def flatBackWrong : ChangeSpec := { name := "flatBack", fn := fun _ => fun
  | [d] => { results := [.lit (.bool false)], args := [d] }
  | _ => none }
def FlatBackWrongFalsely : Prop := flatBackRow.holds Try.pinned (OpenSpec.ofChange flatBackWrong)

/-- 'tympanlaw25.PathGrows': WHATEVER THE INPUT: true; the input reads as it did. -/
def pathGrowsSpec : ChangeSpec := { name := "pathGrows", fn := fun _ => fun
  | [d] => { results := [.lit (.bool true)], args := [d] }
  | _ => none }
def pathGrowsRow : OpenClaim := { program := "ytpompbpdhahljaa", sum := "77f82dd7ebe136de6da6821ed8bac492fe0749bb615750537a6e38bdd29de1db", func := "tympan/tympanlaw25.PathGrows", spec := "pathGrows", apart := false }
def PathGrowsSaid : Prop := pathGrowsRow.holds Try.pinned (OpenSpec.ofChange pathGrowsSpec)

/-- ITS FALSE NEIGHBOUR: 'it returns false'. Refute it at one input. -/
def pathGrowsWrong : ChangeSpec := { name := "pathGrows", fn := fun _ => fun
  | [d] => { results := [.lit (.bool false)], args := [d] }
  | _ => none }
def PathGrowsWrongFalsely : Prop := pathGrowsRow.holds Try.pinned (OpenSpec.ofChange pathGrowsWrong)

/-- 'tympanlaw25.PathLimits': WHATEVER THE INPUT: true; the input reads as it did. -/
def pathLimitsSpec : ChangeSpec := { name := "pathLimits", fn := fun _ => fun
  | [d1, d2, d3] => { results := [.lit (.bool true)], args := [d1, d2, d3] }
  | _ => none }
def pathLimitsRow : OpenClaim := { program := "ytpompbpdhahljaa", sum := "77f82dd7ebe136de6da6821ed8bac492fe0749bb615750537a6e38bdd29de1db", func := "tympan/tympanlaw25.PathLimits", spec := "pathLimits", apart := false }
def PathLimitsSaid : Prop := pathLimitsRow.holds Try.pinned (OpenSpec.ofChange pathLimitsSpec)

/-- ITS FALSE NEIGHBOUR: 'it returns false'. Refute it at one input. -/
def pathLimitsWrong : ChangeSpec := { name := "pathLimits", fn := fun _ => fun
  | [d1, d2, d3] => { results := [.lit (.bool false)], args := [d1, d2, d3] }
  | _ => none }
def PathLimitsWrongFalsely : Prop := pathLimitsRow.holds Try.pinned (OpenSpec.ofChange pathLimitsWrong)

/-- 'tympanlaw25.PathMoves': WHATEVER THE INPUT: true; the input reads as it did. -/
def pathMovesSpec : ChangeSpec := { name := "pathMoves", fn := fun _ => fun
  | [d1, d2, d3] => { results := [.lit (.bool true)], args := [d1, d2, d3] }
  | _ => none }
def pathMovesRow : OpenClaim := { program := "ytpompbpdhahljaa", sum := "77f82dd7ebe136de6da6821ed8bac492fe0749bb615750537a6e38bdd29de1db", func := "tympan/tympanlaw25.PathMoves", spec := "pathMoves", unfollowed := true, recurses := true, apart := false }
def PathMovesSaid : Prop := pathMovesRow.holds Try.pinned (OpenSpec.ofChange pathMovesSpec)

/-- ITS FALSE NEIGHBOUR: 'it returns false'. Refute it at one input. -/
def pathMovesWrong : ChangeSpec := { name := "pathMoves", fn := fun _ => fun
  | [d1, d2, d3] => { results := [.lit (.bool false)], args := [d1, d2, d3] }
  | _ => none }
def PathMovesWrongFalsely : Prop := pathMovesRow.holds Try.pinned (OpenSpec.ofChange pathMovesWrong)

/-- 'tympanlaw25.PathAdds': WHATEVER THE INPUT: true; the input reads as it did. -/
def pathAddsSpec : ChangeSpec := { name := "pathAdds", fn := fun _ => fun
  | [d1, d2, d3] => { results := [.lit (.bool true)], args := [d1, d2, d3] }
  | _ => none }
def pathAddsRow : OpenClaim := { program := "ytpompbpdhahljaa", sum := "77f82dd7ebe136de6da6821ed8bac492fe0749bb615750537a6e38bdd29de1db", func := "tympan/tympanlaw25.PathAdds", spec := "pathAdds", apart := false }
def PathAddsSaid : Prop := pathAddsRow.holds Try.pinned (OpenSpec.ofChange pathAddsSpec)

/-- ITS FALSE NEIGHBOUR: 'it returns false'. Refute it at one input. -/
def pathAddsWrong : ChangeSpec := { name := "pathAdds", fn := fun _ => fun
  | [d1, d2, d3] => { results := [.lit (.bool false)], args := [d1, d2, d3] }
  | _ => none }
def PathAddsWrongFalsely : Prop := pathAddsRow.holds Try.pinned (OpenSpec.ofChange pathAddsWrong)

/- THE SECOND FORM. 'bulk': how many values and letters a reading holds, each counted each time it is reached (what is shared counts as often as it is met; a slice's spare places count too). A statement '..UptoSaid' is the law's where the arguments, and the package variables that the reading takes, are together of bulk at most 1048576: NARROWER than '..Said'. Prove '..Said' where nothing that the law and all that it calls make is longer than what came in: it says more and counts as full. Else prove '..UptoSaid'. A law counts once. -/
mutual
def uptoBulk {H : Type} : DataW H → Nat
  | .lit (.string bytes) => bytes.length + 1
  | .lit _ => 1
  | .nil => 1
  | .ptr d => uptoBulk d + 1
  | .slice elems spare => uptoBulkAll elems + uptoBulkAll spare + 1
  | .agg parts => uptoBulkAll parts + 1
  | .iface _ d => uptoBulk d + 1
  | .map entries => uptoBulkEntries entries + 1
  | .held _ => 1
def uptoBulkAll {H : Type} : List (DataW H) → Nat
  | [] => 0
  | d :: r => uptoBulk d + uptoBulkAll r
def uptoBulkEntries {H : Type} : List (Lit × DataW H) → Nat
  | [] => 0
  | x :: r => uptoBulkEntry x + uptoBulkEntries r
def uptoBulkEntry {H : Type} : Lit × DataW H → Nat
  | (.string bytes, d) => bytes.length + uptoBulk d + 1
  | (_, d) => uptoBulk d + 1
 end
def uptoSmall : (H : Type) → List (DataW H) → Bool := fun _ ds => decide (uptoBulkAll ds ≤ 1048576)
def OpenSpec.upto (s : _root_.Go.ChangeSpec) : _root_.Go.OpenSpec := { _root_.Go.OpenSpec.ofChange s with cond := some uptoSmall }

/-- 'tympanlaw27.FlatNear', WHERE WHAT IT READS IS OF BULK AT MOST 1048576: true; the input reads as it did. -/
def flatNearUptoRow : OpenClaim := { program := "ytpompbpdhahljaa", sum := "77f82dd7ebe136de6da6821ed8bac492fe0749bb615750537a6e38bdd29de1db", func := "tympan/tympanlaw27.FlatNear", spec := "flatNear", unfollowed := true, recurses := true, apart := false, narrowed := true }
def FlatNearUptoSaid : Prop := flatNearUptoRow.holds Try.pinned (OpenSpec.upto flatNearSpec)

/-- 'tympanlaw27.FlatSays', WHERE WHAT IT READS IS OF BULK AT MOST 1048576: true; the input reads as it did. -/
def flatSaysUptoRow : OpenClaim := { program := "ytpompbpdhahljaa", sum := "77f82dd7ebe136de6da6821ed8bac492fe0749bb615750537a6e38bdd29de1db", func := "tympan/tympanlaw27.FlatSays", spec := "flatSays", unfollowed := true, recurses := true, apart := false, narrowed := true }
def FlatSaysUptoSaid : Prop := flatSaysUptoRow.holds Try.pinned (OpenSpec.upto flatSaysSpec)

/-- 'tympanlaw27.FlatMade', WHERE WHAT IT READS IS OF BULK AT MOST 1048576: true; the input reads as it did. -/
def flatMadeUptoRow : OpenClaim := { program := "ytpompbpdhahljaa", sum := "77f82dd7ebe136de6da6821ed8bac492fe0749bb615750537a6e38bdd29de1db", func := "tympan/tympanlaw27.FlatMade", spec := "flatMade", unfollowed := true, recurses := true, apart := false, narrowed := true }
def FlatMadeUptoSaid : Prop := flatMadeUptoRow.holds Try.pinned (OpenSpec.upto flatMadeSpec)

/-- 'tympanlaw27.FlatAgain', WHERE WHAT IT READS IS OF BULK AT MOST 1048576: true; the input reads as it did. -/
def flatAgainUptoRow : OpenClaim := { program := "ytpompbpdhahljaa", sum := "77f82dd7ebe136de6da6821ed8bac492fe0749bb615750537a6e38bdd29de1db", func := "tympan/tympanlaw27.FlatAgain", spec := "flatAgain", unfollowed := true, recurses := true, apart := false, narrowed := true }
def FlatAgainUptoSaid : Prop := flatAgainUptoRow.holds Try.pinned (OpenSpec.upto flatAgainSpec)

/-- 'tympanlaw25.PathJoins', WHERE WHAT IT READS IS OF BULK AT MOST 1048576: true; the input reads as it did. -/
def pathJoinsUptoRow : OpenClaim := { program := "ytpompbpdhahljaa", sum := "77f82dd7ebe136de6da6821ed8bac492fe0749bb615750537a6e38bdd29de1db", func := "tympan/tympanlaw25.PathJoins", spec := "pathJoins", apart := false, narrowed := true }
def PathJoinsUptoSaid : Prop := pathJoinsUptoRow.holds Try.pinned (OpenSpec.upto pathJoinsSpec)

/-- 'tympanlaw25.PathSays', WHERE WHAT IT READS IS OF BULK AT MOST 1048576: true; the input reads as it did. -/
def pathSaysUptoRow : OpenClaim := { program := "ytpompbpdhahljaa", sum := "77f82dd7ebe136de6da6821ed8bac492fe0749bb615750537a6e38bdd29de1db", func := "tympan/tympanlaw25.PathSays", spec := "pathSays", unfollowed := true, recurses := true, apart := false, narrowed := true }
def PathSaysUptoSaid : Prop := pathSaysUptoRow.holds Try.pinned (OpenSpec.upto pathSaysSpec)

/-- 'tympanlaw25.PathBack', WHERE WHAT IT READS IS OF BULK AT MOST 1048576: true; the input reads as it did. -/
def pathBackUptoRow : OpenClaim := { program := "ytpompbpdhahljaa", sum := "77f82dd7ebe136de6da6821ed8bac492fe0749bb615750537a6e38bdd29de1db", func := "tympan/tympanlaw25.PathBack", spec := "pathBack", unfollowed := true, recurses := true, apart := false, narrowed := true }
def PathBackUptoSaid : Prop := pathBackUptoRow.holds Try.pinned (OpenSpec.upto pathBackSpec)

/-- 'tympanlaw25.PathRounds', WHERE WHAT IT READS IS OF BULK AT MOST 1048576: true; the input reads as it did. -/
def pathRoundsUptoRow : OpenClaim := { program := "ytpompbpdhahljaa", sum := "77f82dd7ebe136de6da6821ed8bac492fe0749bb615750537a6e38bdd29de1db", func := "tympan/tympanlaw25.PathRounds", spec := "pathRounds", unfollowed := true, recurses := true, apart := false, narrowed := true }
def PathRoundsUptoSaid : Prop := pathRoundsUptoRow.holds Try.pinned (OpenSpec.upto pathRoundsSpec)

/-- 'tympanlaw27.FlatBack', WHERE WHAT IT READS IS OF BULK AT MOST 1048576: true; the input reads as it did. -/
def flatBackUptoRow : OpenClaim := { program := "ytpompbpdhahljaa", sum := "77f82dd7ebe136de6da6821ed8bac492fe0749bb615750537a6e38bdd29de1db", func := "tympan/tympanlaw27.FlatBack", spec := "flatBack", unfollowed := true, recurses := true, apart := false, narrowed := true }
def FlatBackUptoSaid : Prop := flatBackUptoRow.holds Try.pinned (OpenSpec.upto flatBackSpec)

/-- 'tympanlaw25.PathGrows', WHERE WHAT IT READS IS OF BULK AT MOST 1048576: true; the input reads as it did. -/
def pathGrowsUptoRow : OpenClaim := { program := "ytpompbpdhahljaa", sum := "77f82dd7ebe136de6da6821ed8bac492fe0749bb615750537a6e38bdd29de1db", func := "tympan/tympanlaw25.PathGrows", spec := "pathGrows", apart := false, narrowed := true }
def PathGrowsUptoSaid : Prop := pathGrowsUptoRow.holds Try.pinned (OpenSpec.upto pathGrowsSpec)

/-- 'tympanlaw25.PathLimits', WHERE WHAT IT READS IS OF BULK AT MOST 1048576: true; the input reads as it did. -/
def pathLimitsUptoRow : OpenClaim := { program := "ytpompbpdhahljaa", sum := "77f82dd7ebe136de6da6821ed8bac492fe0749bb615750537a6e38bdd29de1db", func := "tympan/tympanlaw25.PathLimits", spec := "pathLimits", apart := false, narrowed := true }
def PathLimitsUptoSaid : Prop := pathLimitsUptoRow.holds Try.pinned (OpenSpec.upto pathLimitsSpec)

/-- 'tympanlaw25.PathMoves', WHERE WHAT IT READS IS OF BULK AT MOST 1048576: true; the input reads as it did. -/
def pathMovesUptoRow : OpenClaim := { program := "ytpompbpdhahljaa", sum := "77f82dd7ebe136de6da6821ed8bac492fe0749bb615750537a6e38bdd29de1db", func := "tympan/tympanlaw25.PathMoves", spec := "pathMoves", unfollowed := true, recurses := true, apart := false, narrowed := true }
def PathMovesUptoSaid : Prop := pathMovesUptoRow.holds Try.pinned (OpenSpec.upto pathMovesSpec)

/-- 'tympanlaw25.PathAdds', WHERE WHAT IT READS IS OF BULK AT MOST 1048576: true; the input reads as it did. -/
def pathAddsUptoRow : OpenClaim := { program := "ytpompbpdhahljaa", sum := "77f82dd7ebe136de6da6821ed8bac492fe0749bb615750537a6e38bdd29de1db", func := "tympan/tympanlaw25.PathAdds", spec := "pathAdds", apart := false, narrowed := true }
def PathAddsUptoSaid : Prop := pathAddsUptoRow.holds Try.pinned (OpenSpec.upto pathAddsSpec)

end Rows
end Go.Proofs.Ytpompbpdhahljaa
