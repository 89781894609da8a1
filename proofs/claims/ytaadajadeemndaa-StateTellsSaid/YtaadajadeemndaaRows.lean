/-
  No cell of these rows narrows 'for every input' (looked for: loops, veiled, ifaces, maps, wideKeys, modest, calm, conditions, laid).
  DERIVED. THE GIVEN ROWS OF THIS SEAT. 5 by the template 'for every input the law returns true; each argument reads behind the call as it read before'; 0 by the template 'total and deterministic' (their statements: YtaadajadeemndaaTotals.lean).
  GIVEN WITH THE SEED: the statements are not yours to turn. If you find one false, say at which input.
  Laid BY PROGRAM, IN A SANDBOX (cutbox-rows.mjs): the forced cells as the released guide's own fill.sh prints them over the translation 76640b032b92bb1a… (all of the seat's roots in one cut). By AI agents, Wed Nov 11 2026. No macro, syntax, notation, axiom, sorry.
-/
import Derived.Test.YtaadajadeemndaaChecked
import GoSem.Claim
import GoSem.ClaimJoined
import GoSem.ClaimMapViews
import Derived.JoinedTies
import Derived.KernelRfl
namespace Go.Proofs.Ytaadajadeemndaa
/- THE CELL 'sum', in the pinned program and in every row, IS THE sha256 OF THE DUMP (.gsa) THAT YtaadajadeemndaaProg.lean LOADS. Nothing in Lean hashes anything: it is a label: what it is worth is what the hold of that sum in a sandbox is worth. -/
noncomputable def Try.pinned : Pinned := { name := "ytaadajadeemndaa", sum := "76640b032b92bb1a7ea0e79107df4e7008fbf0d4af3f218cf92b7d01e3925ab8", checked := Try.checked }
namespace Rows
def none {H : Type} : Left H := { results := [], args := [] }

/-- 'tympanlaw42.StateShifts': WHATEVER THE INPUT: true; the input reads as it did. -/
def stateShiftsSpec : ChangeSpec := { name := "stateShifts", fn := fun _ => fun
  | [d1, d2, d3, d4] => { results := [.lit (.bool true)], args := [d1, d2, d3, d4] }
  | _ => none }
def stateShiftsRow : OpenClaim := { program := "ytaadajadeemndaa", sum := "76640b032b92bb1a7ea0e79107df4e7008fbf0d4af3f218cf92b7d01e3925ab8", func := "tympan/tympanlaw42.StateShifts", spec := "stateShifts", unfollowed := true, recurses := true, apart := false }
def StateShiftsSaid : Prop := stateShiftsRow.holds Try.pinned (OpenSpec.ofChange stateShiftsSpec)

/-- ITS FALSE NEIGHBOUR: 'it returns false'. Refute it at one input. -/
def stateShiftsWrong : ChangeSpec := { name := "stateShifts", fn := fun _ => fun
  | [d1, d2, d3, d4] => { results := [.lit (.bool false)], args := [d1, d2, d3, d4] }
  | _ => none }
def StateShiftsWrongFalsely : Prop := stateShiftsRow.holds Try.pinned (OpenSpec.ofChange stateShiftsWrong)

/-- 'tympanlaw42.StateKeeps': WHATEVER THE INPUT: true; the input reads as it did. -/
def stateKeepsSpec : ChangeSpec := { name := "stateKeeps", fn := fun _ => fun
  | [d1, d2, d3] => { results := [.lit (.bool true)], args := [d1, d2, d3] }
  | _ => none }
def stateKeepsRow : OpenClaim := { program := "ytaadajadeemndaa", sum := "76640b032b92bb1a7ea0e79107df4e7008fbf0d4af3f218cf92b7d01e3925ab8", func := "tympan/tympanlaw42.StateKeeps", spec := "stateKeeps", unfollowed := true, recurses := true, apart := false }
def StateKeepsSaid : Prop := stateKeepsRow.holds Try.pinned (OpenSpec.ofChange stateKeepsSpec)

/-- ITS FALSE NEIGHBOUR: 'it returns false'. Refute it at one input. -/
def stateKeepsWrong : ChangeSpec := { name := "stateKeeps", fn := fun _ => fun
  | [d1, d2, d3] => { results := [.lit (.bool false)], args := [d1, d2, d3] }
  | _ => none }
def StateKeepsWrongFalsely : Prop := stateKeepsRow.holds Try.pinned (OpenSpec.ofChange stateKeepsWrong)

/-- 'tympanlaw42.StateThere': WHATEVER THE INPUT: true; the input reads as it did. -/
def stateThereSpec : ChangeSpec := { name := "stateThere", fn := fun _ => fun
  | [d1, d2, d3, d4, d5] => { results := [.lit (.bool true)], args := [d1, d2, d3, d4, d5] }
  | _ => none }
def stateThereRow : OpenClaim := { program := "ytaadajadeemndaa", sum := "76640b032b92bb1a7ea0e79107df4e7008fbf0d4af3f218cf92b7d01e3925ab8", func := "tympan/tympanlaw42.StateThere", spec := "stateThere", unfollowed := true, recurses := true, apart := false }
def StateThereSaid : Prop := stateThereRow.holds Try.pinned (OpenSpec.ofChange stateThereSpec)

/-- ITS FALSE NEIGHBOUR: 'it returns false'. Refute it at one input. -/
def stateThereWrong : ChangeSpec := { name := "stateThere", fn := fun _ => fun
  | [d1, d2, d3, d4, d5] => { results := [.lit (.bool false)], args := [d1, d2, d3, d4, d5] }
  | _ => none }
def StateThereWrongFalsely : Prop := stateThereRow.holds Try.pinned (OpenSpec.ofChange stateThereWrong)

/-- 'tympanlaw42.StateMoves': WHATEVER THE INPUT: true; the input reads as it did. -/
def stateMovesSpec : ChangeSpec := { name := "stateMoves", fn := fun _ => fun
  | [d1, d2, d3, d4, d5, d6] => { results := [.lit (.bool true)], args := [d1, d2, d3, d4, d5, d6] }
  | _ => none }
def stateMovesRow : OpenClaim := { program := "ytaadajadeemndaa", sum := "76640b032b92bb1a7ea0e79107df4e7008fbf0d4af3f218cf92b7d01e3925ab8", func := "tympan/tympanlaw42.StateMoves", spec := "stateMoves", unfollowed := true, recurses := true, apart := false }
def StateMovesSaid : Prop := stateMovesRow.holds Try.pinned (OpenSpec.ofChange stateMovesSpec)

/-- ITS FALSE NEIGHBOUR: 'it returns false'. Refute it at one input. -/
def stateMovesWrong : ChangeSpec := { name := "stateMoves", fn := fun _ => fun
  | [d1, d2, d3, d4, d5, d6] => { results := [.lit (.bool false)], args := [d1, d2, d3, d4, d5, d6] }
  | _ => none }
def StateMovesWrongFalsely : Prop := stateMovesRow.holds Try.pinned (OpenSpec.ofChange stateMovesWrong)

/-- 'tympanlaw42.StateTells': WHATEVER THE INPUT: true; the input reads as it did. -/
def stateTellsSpec : ChangeSpec := { name := "stateTells", fn := fun _ => fun
  | [d1, d2] => { results := [.lit (.bool true)], args := [d1, d2] }
  | _ => none }
def stateTellsRow : OpenClaim := { program := "ytaadajadeemndaa", sum := "76640b032b92bb1a7ea0e79107df4e7008fbf0d4af3f218cf92b7d01e3925ab8", func := "tympan/tympanlaw42.StateTells", spec := "stateTells", unfollowed := true, recurses := true, apart := false }
def StateTellsSaid : Prop := stateTellsRow.holds Try.pinned (OpenSpec.ofChange stateTellsSpec)

/-- ITS FALSE NEIGHBOUR: 'it returns false'. Refute it at one input. -/
def stateTellsWrong : ChangeSpec := { name := "stateTells", fn := fun _ => fun
  | [d1, d2] => { results := [.lit (.bool false)], args := [d1, d2] }
  | _ => none }
def StateTellsWrongFalsely : Prop := stateTellsRow.holds Try.pinned (OpenSpec.ofChange stateTellsWrong)

/- THE SECOND FORM. 'bulk': how many values and letters a reading holds, each counted each time it is reached (what is shared counts as often as it is met; a slice's spare places count too). A statement '..UptoSaid' is the law's where the arguments, and the package variables that the reading takes, are together of bulk at most 1048576: NARROWER than '..Said'. Prove '..Said' where nothing that the law and all that it calls make is longer than what came in: it says more and counts as full. Else prove '..UptoSaid'. A law counts once. -/
mutual
def uptoBulk {H : Type} : DataW H → Nat
  | .lit (.string bytes) => bytes.length + 1
  | .lit _ => 1
  | .nil => 1
  | .ptr d => uptoBulk d + 1
  | .slice elems spare => uptoBulkAll elems + uptoBulkAll spare + 1
  | .agg parts => uptoBulkAll parts + 1
  | .iface _ d => uptoBulk d + 1
  | .map entries => uptoBulkEntries entries + 1
  | .held _ => 1
def uptoBulkAll {H : Type} : List (DataW H) → Nat
  | [] => 0
  | d :: r => uptoBulk d + uptoBulkAll r
def uptoBulkEntries {H : Type} : List (Lit × DataW H) → Nat
  | [] => 0
  | x :: r => uptoBulkEntry x + uptoBulkEntries r
def uptoBulkEntry {H : Type} : Lit × DataW H → Nat
  | (.string bytes, d) => bytes.length + uptoBulk d + 1
  | (_, d) => uptoBulk d + 1
 end
def uptoSmall : (H : Type) → List (DataW H) → Bool := fun _ ds => decide (uptoBulkAll ds ≤ 1048576)
def OpenSpec.upto (s : _root_.Go.ChangeSpec) : _root_.Go.OpenSpec := { _root_.Go.OpenSpec.ofChange s with cond := some uptoSmall }

/-- 'tympanlaw42.StateShifts', WHERE WHAT IT READS IS OF BULK AT MOST 1048576: true; the input reads as it did. -/
def stateShiftsUptoRow : OpenClaim := { program := "ytaadajadeemndaa", sum := "76640b032b92bb1a7ea0e79107df4e7008fbf0d4af3f218cf92b7d01e3925ab8", func := "tympan/tympanlaw42.StateShifts", spec := "stateShifts", unfollowed := true, recurses := true, apart := false, narrowed := true }
def StateShiftsUptoSaid : Prop := stateShiftsUptoRow.holds Try.pinned (OpenSpec.upto stateShiftsSpec)

/-- 'tympanlaw42.StateKeeps', WHERE WHAT IT READS IS OF BULK AT MOST 1048576: true; the input reads as it did. -/
def stateKeepsUptoRow : OpenClaim := { program := "ytaadajadeemndaa", sum := "76640b032b92bb1a7ea0e79107df4e7008fbf0d4af3f218cf92b7d01e3925ab8", func := "tympan/tympanlaw42.StateKeeps", spec := "stateKeeps", unfollowed := true, recurses := true, apart := false, narrowed := true }
def StateKeepsUptoSaid : Prop := stateKeepsUptoRow.holds Try.pinned (OpenSpec.upto stateKeepsSpec)

/-- 'tympanlaw42.StateThere', WHERE WHAT IT READS IS OF BULK AT MOST 1048576: true; the input reads as it did. -/
def stateThereUptoRow : OpenClaim := { program := "ytaadajadeemndaa", sum := "76640b032b92bb1a7ea0e79107df4e7008fbf0d4af3f218cf92b7d01e3925ab8", func := "tympan/tympanlaw42.StateThere", spec := "stateThere", unfollowed := true, recurses := true, apart := false, narrowed := true }
def StateThereUptoSaid : Prop := stateThereUptoRow.holds Try.pinned (OpenSpec.upto stateThereSpec)

/-- 'tympanlaw42.StateMoves', WHERE WHAT IT READS IS OF BULK AT MOST 1048576: true; the input reads as it did. -/
def stateMovesUptoRow : OpenClaim := { program := "ytaadajadeemndaa", sum := "76640b032b92bb1a7ea0e79107df4e7008fbf0d4af3f218cf92b7d01e3925ab8", func := "tympan/tympanlaw42.StateMoves", spec := "stateMoves", unfollowed := true, recurses := true, apart := false, narrowed := true }
def StateMovesUptoSaid : Prop := stateMovesUptoRow.holds Try.pinned (OpenSpec.upto stateMovesSpec)

/-- 'tympanlaw42.StateTells', WHERE WHAT IT READS IS OF BULK AT MOST 1048576: true; the input reads as it did. -/
def stateTellsUptoRow : OpenClaim := { program := "ytaadajadeemndaa", sum := "76640b032b92bb1a7ea0e79107df4e7008fbf0d4af3f218cf92b7d01e3925ab8", func := "tympan/tympanlaw42.StateTells", spec := "stateTells", unfollowed := true, recurses := true, apart := false, narrowed := true }
def StateTellsUptoSaid : Prop := stateTellsUptoRow.holds Try.pinned (OpenSpec.upto stateTellsSpec)

end Rows
end Go.Proofs.Ytaadajadeemndaa
