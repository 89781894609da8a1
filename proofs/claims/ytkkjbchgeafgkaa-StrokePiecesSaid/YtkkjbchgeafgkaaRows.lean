/-
  No cell of these rows narrows 'for every input' (looked for: loops, veiled, ifaces, maps, wideKeys, modest, calm, conditions, laid).
  DERIVED. THE GIVEN ROWS OF THIS SEAT. 2 by the template 'for every input the law returns true; each argument reads behind the call as it read before'; 0 by the template 'total and deterministic' (their statements: YtkkjbchgeafgkaaTotals.lean).
  GIVEN WITH THE SEED: the statements are not yours to turn. If you find one false, say at which input.
  Laid BY PROGRAM, IN A SANDBOX (cutbox-rows.mjs): the forced cells as the released guide's own fill.sh prints them over the translation e5f418f23bf0e977… (all of the seat's roots in one cut). By AI agents, Wed Nov 11 2026. No macro, syntax, notation, axiom, sorry.
-/
import Derived.Test.YtkkjbchgeafgkaaChecked
import GoSem.Claim
import GoSem.ClaimJoined
import GoSem.ClaimMapViews
import Derived.JoinedTies
import Derived.KernelRfl
namespace Go.Proofs.Ytkkjbchgeafgkaa
/- THE CELL 'sum', in the pinned program and in every row, IS THE sha256 OF THE DUMP (.gsa) THAT YtkkjbchgeafgkaaProg.lean LOADS. Nothing in Lean hashes anything: it is a label: what it is worth is what the hold of that sum in a sandbox is worth. -/
noncomputable def Try.pinned : Pinned := { name := "ytkkjbchgeafgkaa", sum := "e5f418f23bf0e9779320a6736735b098e6f5148f616420ae9b87e0a3c365568d", checked := Try.checked }
namespace Rows
def none {H : Type} : Left H := { results := [], args := [] }

/-- 'tympanlaw33.StrokePieces': WHATEVER THE INPUT: true; the input reads as it did. -/
def strokePiecesSpec : ChangeSpec := { name := "strokePieces", fn := fun _ => fun
  | [d1, d2, d3, d4, d5] => { results := [.lit (.bool true)], args := [d1, d2, d3, d4, d5] }
  | _ => none }
def strokePiecesRow : OpenClaim := { program := "ytkkjbchgeafgkaa", sum := "e5f418f23bf0e9779320a6736735b098e6f5148f616420ae9b87e0a3c365568d", func := "tympan/tympanlaw33.StrokePieces", spec := "strokePieces", unfollowed := true, recurses := true, apart := false }
def StrokePiecesSaid : Prop := strokePiecesRow.holds Try.pinned (OpenSpec.ofChange strokePiecesSpec)

/-- ITS FALSE NEIGHBOUR: 'it returns false'. Refute it at one input. -/
def strokePiecesWrong : ChangeSpec := { name := "strokePieces", fn := fun _ => fun
  | [d1, d2, d3, d4, d5] => { results := [.lit (.bool false)], args := [d1, d2, d3, d4, d5] }
  | _ => none }
def StrokePiecesWrongFalsely : Prop := strokePiecesRow.holds Try.pinned (OpenSpec.ofChange strokePiecesWrong)

/-- 'tympanlaw33.StrokeRounds': WHATEVER THE INPUT: true; the input reads as it did. -/
def strokeRoundsSpec : ChangeSpec := { name := "strokeRounds", fn := fun _ => fun
  | [d1, d2, d3, d4, d5] => { results := [.lit (.bool true)], args := [d1, d2, d3, d4, d5] }
  | _ => none }
def strokeRoundsRow : OpenClaim := { program := "ytkkjbchgeafgkaa", sum := "e5f418f23bf0e9779320a6736735b098e6f5148f616420ae9b87e0a3c365568d", func := "tympan/tympanlaw33.StrokeRounds", spec := "strokeRounds", unfollowed := true, recurses := true, apart := false }
def StrokeRoundsSaid : Prop := strokeRoundsRow.holds Try.pinned (OpenSpec.ofChange strokeRoundsSpec)

/-- ITS FALSE NEIGHBOUR: 'it returns false'. Refute it at one input. -/
def strokeRoundsWrong : ChangeSpec := { name := "strokeRounds", fn := fun _ => fun
  | [d1, d2, d3, d4, d5] => { results := [.lit (.bool false)], args := [d1, d2, d3, d4, d5] }
  | _ => none }
def StrokeRoundsWrongFalsely : Prop := strokeRoundsRow.holds Try.pinned (OpenSpec.ofChange strokeRoundsWrong)

/- THE SECOND FORM. 'bulk': how many values and letters a reading holds, each counted each time it is reached (what is shared counts as often as it is met; a slice's spare places count too). A statement '..UptoSaid' is the law's where the arguments, and the package variables that the reading takes, are together of bulk at most 1048576: NARROWER than '..Said'. Prove '..Said' where nothing that the law and all that it calls make is longer than what came in: it says more and counts as full. Else prove '..UptoSaid'. A law counts once. -/
mutual
def uptoBulk {H : Type} : DataW H → Nat
  | .lit (.string bytes) => bytes.length + 1
  | .lit _ => 1
  | .nil => 1
  | .ptr d => uptoBulk d + 1
  | .slice elems spare => uptoBulkAll elems + uptoBulkAll spare + 1
  | .agg parts => uptoBulkAll parts + 1
  | .iface _ d => uptoBulk d + 1
  | .map entries => uptoBulkEntries entries + 1
  | .held _ => 1
def uptoBulkAll {H : Type} : List (DataW H) → Nat
  | [] => 0
  | d :: r => uptoBulk d + uptoBulkAll r
def uptoBulkEntries {H : Type} : List (Lit × DataW H) → Nat
  | [] => 0
  | x :: r => uptoBulkEntry x + uptoBulkEntries r
def uptoBulkEntry {H : Type} : Lit × DataW H → Nat
  | (.string bytes, d) => bytes.length + uptoBulk d + 1
  | (_, d) => uptoBulk d + 1
 end
def uptoSmall : (H : Type) → List (DataW H) → Bool := fun _ ds => decide (uptoBulkAll ds ≤ 1048576)
def OpenSpec.upto (s : _root_.Go.ChangeSpec) : _root_.Go.OpenSpec := { _root_.Go.OpenSpec.ofChange s with cond := some uptoSmall }

/-- 'tympanlaw33.StrokePieces', WHERE WHAT IT READS IS OF BULK AT MOST 1048576: true; the input reads as it did. -/
def strokePiecesUptoRow : OpenClaim := { program := "ytkkjbchgeafgkaa", sum := "e5f418f23bf0e9779320a6736735b098e6f5148f616420ae9b87e0a3c365568d", func := "tympan/tympanlaw33.StrokePieces", spec := "strokePieces", unfollowed := true, recurses := true, apart := false, narrowed := true }
def StrokePiecesUptoSaid : Prop := strokePiecesUptoRow.holds Try.pinned (OpenSpec.upto strokePiecesSpec)

/-- 'tympanlaw33.StrokeRounds', WHERE WHAT IT READS IS OF BULK AT MOST 1048576: true; the input reads as it did. -/
def strokeRoundsUptoRow : OpenClaim := { program := "ytkkjbchgeafgkaa", sum := "e5f418f23bf0e9779320a6736735b098e6f5148f616420ae9b87e0a3c365568d", func := "tympan/tympanlaw33.StrokeRounds", spec := "strokeRounds", unfollowed := true, recurses := true, apart := false, narrowed := true }
def StrokeRoundsUptoSaid : Prop := strokeRoundsUptoRow.holds Try.pinned (OpenSpec.upto strokeRoundsSpec)

end Rows
end Go.Proofs.Ytkkjbchgeafgkaa
