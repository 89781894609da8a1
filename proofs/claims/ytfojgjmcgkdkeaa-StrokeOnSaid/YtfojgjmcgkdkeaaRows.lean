/-
  No cell of these rows narrows 'for every input' (looked for: loops, veiled, ifaces, maps, wideKeys, modest, calm, conditions, laid).
  DERIVED. THE GIVEN ROWS OF THIS SEAT. 6 by the template 'for every input the law returns true; each argument reads behind the call as it read before'; 0 by the template 'total and deterministic' (their statements: YtfojgjmcgkdkeaaTotals.lean).
  GIVEN WITH THE SEED: the statements are not yours to turn. If you find one false, say at which input.
  Laid BY PROGRAM, IN A SANDBOX (cutbox-rows.mjs): the forced cells as the released guide's own fill.sh prints them over the translation ade77f1bc27dd379… (all of the seat's roots in one cut). By AI agents, Wed Nov 11 2026. No macro, syntax, notation, axiom, sorry.
-/
import Derived.Test.YtfojgjmcgkdkeaaChecked
import GoSem.Claim
import GoSem.ClaimJoined
import GoSem.ClaimMapViews
import Derived.JoinedTies
import Derived.KernelRfl
namespace Go.Proofs.Ytfojgjmcgkdkeaa
/- THE CELL 'sum', in the pinned program and in every row, IS THE sha256 OF THE DUMP (.gsa) THAT YtfojgjmcgkdkeaaProg.lean LOADS. Nothing in Lean hashes anything: it is a label: what it is worth is what the hold of that sum in a sandbox is worth. -/
noncomputable def Try.pinned : Pinned := { name := "ytfojgjmcgkdkeaa", sum := "ade77f1bc27dd37925d5e19fd82f8bf903529a243d556a2daadf383d0f6f20ac", checked := Try.checked }
namespace Rows
def none {H : Type} : Left H := { results := [], args := [] }

/-- 'tympanlaw33.StrokeSays': WHATEVER THE INPUT: true; the input reads as it did. -/
def strokeSaysSpec : ChangeSpec := { name := "strokeSays", fn := fun _ => fun
  | [d1, d2, d3, d4] => { results := [.lit (.bool true)], args := [d1, d2, d3, d4] }
  | _ => none }
def strokeSaysRow : OpenClaim := { program := "ytfojgjmcgkdkeaa", sum := "ade77f1bc27dd37925d5e19fd82f8bf903529a243d556a2daadf383d0f6f20ac", func := "tympan/tympanlaw33.StrokeSays", spec := "strokeSays", unfollowed := true, recurses := true, apart := false }
def StrokeSaysSaid : Prop := strokeSaysRow.holds Try.pinned (OpenSpec.ofChange strokeSaysSpec)

/-- ITS FALSE NEIGHBOUR: 'it returns false'. Refute it at one input. -/
def strokeSaysWrong : ChangeSpec := { name := "strokeSays", fn := fun _ => fun
  | [d1, d2, d3, d4] => { results := [.lit (.bool false)], args := [d1, d2, d3, d4] }
  | _ => none }
def StrokeSaysWrongFalsely : Prop := strokeSaysRow.holds Try.pinned (OpenSpec.ofChange strokeSaysWrong)

/-- 'tympanlaw33.StrokePieces': WHATEVER THE INPUT: true; the input reads as it did. -/
def strokePiecesSpec : ChangeSpec := { name := "strokePieces", fn := fun _ => fun
  | [d1, d2, d3, d4, d5] => { results := [.lit (.bool true)], args := [d1, d2, d3, d4, d5] }
  | _ => none }
def strokePiecesRow : OpenClaim := { program := "ytfojgjmcgkdkeaa", sum := "ade77f1bc27dd37925d5e19fd82f8bf903529a243d556a2daadf383d0f6f20ac", func := "tympan/tympanlaw33.StrokePieces", spec := "strokePieces", unfollowed := true, recurses := true, apart := false }
def StrokePiecesSaid : Prop := strokePiecesRow.holds Try.pinned (OpenSpec.ofChange strokePiecesSpec)

/-- ITS FALSE NEIGHBOUR: 'it returns false'. Refute it at one input. -/
def strokePiecesWrong : ChangeSpec := { name := "strokePieces", fn := fun _ => fun
  | [d1, d2, d3, d4, d5] => { results := [.lit (.bool false)], args := [d1, d2, d3, d4, d5] }
  | _ => none }
def StrokePiecesWrongFalsely : Prop := strokePiecesRow.holds Try.pinned (OpenSpec.ofChange strokePiecesWrong)

/-- 'tympanlaw33.StrokeRounds': WHATEVER THE INPUT: true; the input reads as it did. -/
def strokeRoundsSpec : ChangeSpec := { name := "strokeRounds", fn := fun _ => fun
  | [d1, d2, d3, d4, d5] => { results := [.lit (.bool true)], args := [d1, d2, d3, d4, d5] }
  | _ => none }
def strokeRoundsRow : OpenClaim := { program := "ytfojgjmcgkdkeaa", sum := "ade77f1bc27dd37925d5e19fd82f8bf903529a243d556a2daadf383d0f6f20ac", func := "tympan/tympanlaw33.StrokeRounds", spec := "strokeRounds", unfollowed := true, recurses := true, apart := false }
def StrokeRoundsSaid : Prop := strokeRoundsRow.holds Try.pinned (OpenSpec.ofChange strokeRoundsSpec)

/-- ITS FALSE NEIGHBOUR: 'it returns false'. Refute it at one input. -/
def strokeRoundsWrong : ChangeSpec := { name := "strokeRounds", fn := fun _ => fun
  | [d1, d2, d3, d4, d5] => { results := [.lit (.bool false)], args := [d1, d2, d3, d4, d5] }
  | _ => none }
def StrokeRoundsWrongFalsely : Prop := strokeRoundsRow.holds Try.pinned (OpenSpec.ofChange strokeRoundsWrong)

/-- 'tympanlaw33.StrokeMasks': WHATEVER THE INPUT: true; the input reads as it did. -/
def strokeMasksSpec : ChangeSpec := { name := "strokeMasks", fn := fun _ => fun
  | [d1, d2, d3, d4] => { results := [.lit (.bool true)], args := [d1, d2, d3, d4] }
  | _ => none }
def strokeMasksRow : OpenClaim := { program := "ytfojgjmcgkdkeaa", sum := "ade77f1bc27dd37925d5e19fd82f8bf903529a243d556a2daadf383d0f6f20ac", func := "tympan/tympanlaw33.StrokeMasks", spec := "strokeMasks", unfollowed := true, recurses := true, apart := false }
def StrokeMasksSaid : Prop := strokeMasksRow.holds Try.pinned (OpenSpec.ofChange strokeMasksSpec)

/-- ITS FALSE NEIGHBOUR: 'it returns false'. Refute it at one input. -/
def strokeMasksWrong : ChangeSpec := { name := "strokeMasks", fn := fun _ => fun
  | [d1, d2, d3, d4] => { results := [.lit (.bool false)], args := [d1, d2, d3, d4] }
  | _ => none }
def StrokeMasksWrongFalsely : Prop := strokeMasksRow.holds Try.pinned (OpenSpec.ofChange strokeMasksWrong)

/-- 'tympanlaw33.StrokeMade': WHATEVER THE INPUT: true; the input reads as it did. -/
def strokeMadeSpec : ChangeSpec := { name := "strokeMade", fn := fun _ => fun
  | [d1, d2, d3, d4, d5, d6] => { results := [.lit (.bool true)], args := [d1, d2, d3, d4, d5, d6] }
  | _ => none }
def strokeMadeRow : OpenClaim := { program := "ytfojgjmcgkdkeaa", sum := "ade77f1bc27dd37925d5e19fd82f8bf903529a243d556a2daadf383d0f6f20ac", func := "tympan/tympanlaw33.StrokeMade", spec := "strokeMade", unfollowed := true, recurses := true, apart := false }
def StrokeMadeSaid : Prop := strokeMadeRow.holds Try.pinned (OpenSpec.ofChange strokeMadeSpec)

/-- ITS FALSE NEIGHBOUR: 'it returns false'. Refute it at one input. -/
def strokeMadeWrong : ChangeSpec := { name := "strokeMade", fn := fun _ => fun
  | [d1, d2, d3, d4, d5, d6] => { results := [.lit (.bool false)], args := [d1, d2, d3, d4, d5, d6] }
  | _ => none }
def StrokeMadeWrongFalsely : Prop := strokeMadeRow.holds Try.pinned (OpenSpec.ofChange strokeMadeWrong)

/-- 'tympanlaw33.StrokeOn': WHATEVER THE INPUT: true; the input reads as it did. -/
def strokeOnSpec : ChangeSpec := { name := "strokeOn", fn := fun _ => fun
  | [d1, d2] => { results := [.lit (.bool true)], args := [d1, d2] }
  | _ => none }
def strokeOnRow : OpenClaim := { program := "ytfojgjmcgkdkeaa", sum := "ade77f1bc27dd37925d5e19fd82f8bf903529a243d556a2daadf383d0f6f20ac", func := "tympan/tympanlaw33.StrokeOn", spec := "strokeOn", unfollowed := true, recurses := true, apart := false }
def StrokeOnSaid : Prop := strokeOnRow.holds Try.pinned (OpenSpec.ofChange strokeOnSpec)

/-- ITS FALSE NEIGHBOUR: 'it returns false'. Refute it at one input. -/
def strokeOnWrong : ChangeSpec := { name := "strokeOn", fn := fun _ => fun
  | [d1, d2] => { results := [.lit (.bool false)], args := [d1, d2] }
  | _ => none }
def StrokeOnWrongFalsely : Prop := strokeOnRow.holds Try.pinned (OpenSpec.ofChange strokeOnWrong)

/- THE SECOND FORM. 'bulk': how many values and letters a reading holds, each counted each time it is reached (what is shared counts as often as it is met; a slice's spare places count too). A statement '..UptoSaid' is the law's where the arguments, and the package variables that the reading takes, are together of bulk at most 1048576: NARROWER than '..Said'. Prove '..Said' where nothing that the law and all that it calls make is longer than what came in: it says more and counts as full. Else prove '..UptoSaid'. A law counts once. -/
mutual
def uptoBulk {H : Type} : DataW H → Nat
  | .lit (.string bytes) => bytes.length + 1
  | .lit _ => 1
  | .nil => 1
  | .ptr d => uptoBulk d + 1
  | .slice elems spare => uptoBulkAll elems + uptoBulkAll spare + 1
  | .agg parts => uptoBulkAll parts + 1
  | .iface _ d => uptoBulk d + 1
  | .map entries => uptoBulkEntries entries + 1
  | .held _ => 1
def uptoBulkAll {H : Type} : List (DataW H) → Nat
  | [] => 0
  | d :: r => uptoBulk d + uptoBulkAll r
def uptoBulkEntries {H : Type} : List (Lit × DataW H) → Nat
  | [] => 0
  | x :: r => uptoBulkEntry x + uptoBulkEntries r
def uptoBulkEntry {H : Type} : Lit × DataW H → Nat
  | (.string bytes, d) => bytes.length + uptoBulk d + 1
  | (_, d) => uptoBulk d + 1
 end
def uptoSmall : (H : Type) → List (DataW H) → Bool := fun _ ds => decide (uptoBulkAll ds ≤ 1048576)
def OpenSpec.upto (s : _root_.Go.ChangeSpec) : _root_.Go.OpenSpec := { _root_.Go.OpenSpec.ofChange s with cond := some uptoSmall }

/-- 'tympanlaw33.StrokeSays', WHERE WHAT IT READS IS OF BULK AT MOST 1048576: true; the input reads as it did. -/
def strokeSaysUptoRow : OpenClaim := { program := "ytfojgjmcgkdkeaa", sum := "ade77f1bc27dd37925d5e19fd82f8bf903529a243d556a2daadf383d0f6f20ac", func := "tympan/tympanlaw33.StrokeSays", spec := "strokeSays", unfollowed := true, recurses := true, apart := false, narrowed := true }
def StrokeSaysUptoSaid : Prop := strokeSaysUptoRow.holds Try.pinned (OpenSpec.upto strokeSaysSpec)

/-- 'tympanlaw33.StrokePieces', WHERE WHAT IT READS IS OF BULK AT MOST 1048576: true; the input reads as it did. -/
def strokePiecesUptoRow : OpenClaim := { program := "ytfojgjmcgkdkeaa", sum := "ade77f1bc27dd37925d5e19fd82f8bf903529a243d556a2daadf383d0f6f20ac", func := "tympan/tympanlaw33.StrokePieces", spec := "strokePieces", unfollowed := true, recurses := true, apart := false, narrowed := true }
def StrokePiecesUptoSaid : Prop := strokePiecesUptoRow.holds Try.pinned (OpenSpec.upto strokePiecesSpec)

/-- 'tympanlaw33.StrokeRounds', WHERE WHAT IT READS IS OF BULK AT MOST 1048576: true; the input reads as it did. -/
def strokeRoundsUptoRow : OpenClaim := { program := "ytfojgjmcgkdkeaa", sum := "ade77f1bc27dd37925d5e19fd82f8bf903529a243d556a2daadf383d0f6f20ac", func := "tympan/tympanlaw33.StrokeRounds", spec := "strokeRounds", unfollowed := true, recurses := true, apart := false, narrowed := true }
def StrokeRoundsUptoSaid : Prop := strokeRoundsUptoRow.holds Try.pinned (OpenSpec.upto strokeRoundsSpec)

/-- 'tympanlaw33.StrokeMasks', WHERE WHAT IT READS IS OF BULK AT MOST 1048576: true; the input reads as it did. -/
def strokeMasksUptoRow : OpenClaim := { program := "ytfojgjmcgkdkeaa", sum := "ade77f1bc27dd37925d5e19fd82f8bf903529a243d556a2daadf383d0f6f20ac", func := "tympan/tympanlaw33.StrokeMasks", spec := "strokeMasks", unfollowed := true, recurses := true, apart := false, narrowed := true }
def StrokeMasksUptoSaid : Prop := strokeMasksUptoRow.holds Try.pinned (OpenSpec.upto strokeMasksSpec)

/-- 'tympanlaw33.StrokeMade', WHERE WHAT IT READS IS OF BULK AT MOST 1048576: true; the input reads as it did. -/
def strokeMadeUptoRow : OpenClaim := { program := "ytfojgjmcgkdkeaa", sum := "ade77f1bc27dd37925d5e19fd82f8bf903529a243d556a2daadf383d0f6f20ac", func := "tympan/tympanlaw33.StrokeMade", spec := "strokeMade", unfollowed := true, recurses := true, apart := false, narrowed := true }
def StrokeMadeUptoSaid : Prop := strokeMadeUptoRow.holds Try.pinned (OpenSpec.upto strokeMadeSpec)

/-- 'tympanlaw33.StrokeOn', WHERE WHAT IT READS IS OF BULK AT MOST 1048576: true; the input reads as it did. -/
def strokeOnUptoRow : OpenClaim := { program := "ytfojgjmcgkdkeaa", sum := "ade77f1bc27dd37925d5e19fd82f8bf903529a243d556a2daadf383d0f6f20ac", func := "tympan/tympanlaw33.StrokeOn", spec := "strokeOn", unfollowed := true, recurses := true, apart := false, narrowed := true }
def StrokeOnUptoSaid : Prop := strokeOnUptoRow.holds Try.pinned (OpenSpec.upto strokeOnSpec)

end Rows
end Go.Proofs.Ytfojgjmcgkdkeaa
