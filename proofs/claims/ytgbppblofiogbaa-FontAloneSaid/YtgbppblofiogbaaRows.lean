/-
  No cell of these rows narrows 'for every input' (looked for: loops, veiled, ifaces, maps, wideKeys, modest, calm, conditions, laid).
  DERIVED. THE GIVEN ROWS OF THIS SEAT. 5 by the template 'for every input the law returns true; each argument reads behind the call as it read before'; 0 by the template 'total and deterministic' (their statements: YtgbppblofiogbaaTotals.lean).
  GIVEN WITH THE SEED: the statements are not yours to turn. If you find one false, say at which input.
  Laid BY PROGRAM, IN A SANDBOX (cutbox-rows.mjs): the forced cells as the released guide's own fill.sh prints them over the translation ba0cf349d4783f71… (all of the seat's roots in one cut). By AI agents, Wed Nov 11 2026. No macro, syntax, notation, axiom, sorry.
-/
import Derived.Test.YtgbppblofiogbaaChecked
import GoSem.Claim
import GoSem.ClaimJoined
import GoSem.ClaimMapViews
import Derived.JoinedTies
import Derived.KernelRfl
namespace Go.Proofs.Ytgbppblofiogbaa
/- THE CELL 'sum', in the pinned program and in every row, IS THE sha256 OF THE DUMP (.gsa) THAT YtgbppblofiogbaaProg.lean LOADS. Nothing in Lean hashes anything: it is a label: what it is worth is what the hold of that sum in a sandbox is worth. -/
noncomputable def Try.pinned : Pinned := { name := "ytgbppblofiogbaa", sum := "ba0cf349d4783f71517617cc28ab5acb9c00c2464b8bfddc8474d5d6a5ac8227", checked := Try.checked }
namespace Rows
def none {H : Type} : Left H := { results := [], args := [] }

/-- 'tympanlaw41.FontScales': WHATEVER THE INPUT: true; the input reads as it did. -/
def fontScalesSpec : ChangeSpec := { name := "fontScales", fn := fun _ => fun
  | [d1, d2, d3, d4] => { results := [.lit (.bool true)], args := [d1, d2, d3, d4] }
  | _ => none }
def fontScalesRow : OpenClaim := { program := "ytgbppblofiogbaa", sum := "ba0cf349d4783f71517617cc28ab5acb9c00c2464b8bfddc8474d5d6a5ac8227", func := "tympan/tympanlaw41.FontScales", spec := "fontScales", unfollowed := true, recurses := true, apart := false }
def FontScalesSaid : Prop := fontScalesRow.holds Try.pinned (OpenSpec.ofChange fontScalesSpec)

/-- ITS FALSE NEIGHBOUR: 'it returns false'. Refute it at one input. -/
def fontScalesWrong : ChangeSpec := { name := "fontScales", fn := fun _ => fun
  | [d1, d2, d3, d4] => { results := [.lit (.bool false)], args := [d1, d2, d3, d4] }
  | _ => none }
def FontScalesWrongFalsely : Prop := fontScalesRow.holds Try.pinned (OpenSpec.ofChange fontScalesWrong)

/-- 'tympanlaw41.FontWalks': WHATEVER THE INPUT: true; the input reads as it did. -/
def fontWalksSpec : ChangeSpec := { name := "fontWalks", fn := fun _ => fun
  | [d1, d2, d3, d4] => { results := [.lit (.bool true)], args := [d1, d2, d3, d4] }
  | _ => none }
def fontWalksRow : OpenClaim := { program := "ytgbppblofiogbaa", sum := "ba0cf349d4783f71517617cc28ab5acb9c00c2464b8bfddc8474d5d6a5ac8227", func := "tympan/tympanlaw41.FontWalks", spec := "fontWalks", unfollowed := true, recurses := true, apart := false }
def FontWalksSaid : Prop := fontWalksRow.holds Try.pinned (OpenSpec.ofChange fontWalksSpec)

/-- ITS FALSE NEIGHBOUR: 'it returns false'. Refute it at one input. -/
def fontWalksWrong : ChangeSpec := { name := "fontWalks", fn := fun _ => fun
  | [d1, d2, d3, d4] => { results := [.lit (.bool false)], args := [d1, d2, d3, d4] }
  | _ => none }
def FontWalksWrongFalsely : Prop := fontWalksRow.holds Try.pinned (OpenSpec.ofChange fontWalksWrong)

/-- 'tympanlaw41.FontParts': WHATEVER THE INPUT: true; the input reads as it did. -/
def fontPartsSpec : ChangeSpec := { name := "fontParts", fn := fun _ => fun
  | [d1, d2, d3, d4] => { results := [.lit (.bool true)], args := [d1, d2, d3, d4] }
  | _ => none }
def fontPartsRow : OpenClaim := { program := "ytgbppblofiogbaa", sum := "ba0cf349d4783f71517617cc28ab5acb9c00c2464b8bfddc8474d5d6a5ac8227", func := "tympan/tympanlaw41.FontParts", spec := "fontParts", unfollowed := true, recurses := true, apart := false }
def FontPartsSaid : Prop := fontPartsRow.holds Try.pinned (OpenSpec.ofChange fontPartsSpec)

/-- ITS FALSE NEIGHBOUR: 'it returns false'. Refute it at one input. -/
def fontPartsWrong : ChangeSpec := { name := "fontParts", fn := fun _ => fun
  | [d1, d2, d3, d4] => { results := [.lit (.bool false)], args := [d1, d2, d3, d4] }
  | _ => none }
def FontPartsWrongFalsely : Prop := fontPartsRow.holds Try.pinned (OpenSpec.ofChange fontPartsWrong)

/-- 'tympanlaw41.FontAlone': WHATEVER THE INPUT: true; the input reads as it did. -/
def fontAloneSpec : ChangeSpec := { name := "fontAlone", fn := fun _ => fun
  | [d1, d2, d3, d4, d5] => { results := [.lit (.bool true)], args := [d1, d2, d3, d4, d5] }
  | _ => none }
def fontAloneRow : OpenClaim := { program := "ytgbppblofiogbaa", sum := "ba0cf349d4783f71517617cc28ab5acb9c00c2464b8bfddc8474d5d6a5ac8227", func := "tympan/tympanlaw41.FontAlone", spec := "fontAlone", unfollowed := true, recurses := true, apart := false }
def FontAloneSaid : Prop := fontAloneRow.holds Try.pinned (OpenSpec.ofChange fontAloneSpec)

/-- ITS FALSE NEIGHBOUR: 'it returns false'. Refute it at one input. -/
def fontAloneWrong : ChangeSpec := { name := "fontAlone", fn := fun _ => fun
  | [d1, d2, d3, d4, d5] => { results := [.lit (.bool false)], args := [d1, d2, d3, d4, d5] }
  | _ => none }
def FontAloneWrongFalsely : Prop := fontAloneRow.holds Try.pinned (OpenSpec.ofChange fontAloneWrong)

/-- 'tympanlaw41.FontMoves': WHATEVER THE INPUT: true; the input reads as it did. -/
def fontMovesSpec : ChangeSpec := { name := "fontMoves", fn := fun _ => fun
  | [d1, d2, d3, d4] => { results := [.lit (.bool true)], args := [d1, d2, d3, d4] }
  | _ => none }
def fontMovesRow : OpenClaim := { program := "ytgbppblofiogbaa", sum := "ba0cf349d4783f71517617cc28ab5acb9c00c2464b8bfddc8474d5d6a5ac8227", func := "tympan/tympanlaw41.FontMoves", spec := "fontMoves", unfollowed := true, recurses := true, apart := false }
def FontMovesSaid : Prop := fontMovesRow.holds Try.pinned (OpenSpec.ofChange fontMovesSpec)

/-- ITS FALSE NEIGHBOUR: 'it returns false'. Refute it at one input. -/
def fontMovesWrong : ChangeSpec := { name := "fontMoves", fn := fun _ => fun
  | [d1, d2, d3, d4] => { results := [.lit (.bool false)], args := [d1, d2, d3, d4] }
  | _ => none }
def FontMovesWrongFalsely : Prop := fontMovesRow.holds Try.pinned (OpenSpec.ofChange fontMovesWrong)

/- THE SECOND FORM. 'bulk': how many values and letters a reading holds, each counted each time it is reached (what is shared counts as often as it is met; a slice's spare places count too). A statement '..UptoSaid' is the law's where the arguments, and the package variables that the reading takes, are together of bulk at most 1048576: NARROWER than '..Said'. Prove '..Said' where nothing that the law and all that it calls make is longer than what came in: it says more and counts as full. Else prove '..UptoSaid'. A law counts once. -/
mutual
def uptoBulk {H : Type} : DataW H → Nat
  | .lit (.string bytes) => bytes.length + 1
  | .lit _ => 1
  | .nil => 1
  | .ptr d => uptoBulk d + 1
  | .slice elems spare => uptoBulkAll elems + uptoBulkAll spare + 1
  | .agg parts => uptoBulkAll parts + 1
  | .iface _ d => uptoBulk d + 1
  | .map entries => uptoBulkEntries entries + 1
  | .held _ => 1
def uptoBulkAll {H : Type} : List (DataW H) → Nat
  | [] => 0
  | d :: r => uptoBulk d + uptoBulkAll r
def uptoBulkEntries {H : Type} : List (Lit × DataW H) → Nat
  | [] => 0
  | x :: r => uptoBulkEntry x + uptoBulkEntries r
def uptoBulkEntry {H : Type} : Lit × DataW H → Nat
  | (.string bytes, d) => bytes.length + uptoBulk d + 1
  | (_, d) => uptoBulk d + 1
 end
def uptoSmall : (H : Type) → List (DataW H) → Bool := fun _ ds => decide (uptoBulkAll ds ≤ 1048576)
def OpenSpec.upto (s : _root_.Go.ChangeSpec) : _root_.Go.OpenSpec := { _root_.Go.OpenSpec.ofChange s with cond := some uptoSmall }

/-- 'tympanlaw41.FontScales', WHERE WHAT IT READS IS OF BULK AT MOST 1048576: true; the input reads as it did. -/
def fontScalesUptoRow : OpenClaim := { program := "ytgbppblofiogbaa", sum := "ba0cf349d4783f71517617cc28ab5acb9c00c2464b8bfddc8474d5d6a5ac8227", func := "tympan/tympanlaw41.FontScales", spec := "fontScales", unfollowed := true, recurses := true, apart := false, narrowed := true }
def FontScalesUptoSaid : Prop := fontScalesUptoRow.holds Try.pinned (OpenSpec.upto fontScalesSpec)

/-- 'tympanlaw41.FontWalks', WHERE WHAT IT READS IS OF BULK AT MOST 1048576: true; the input reads as it did. -/
def fontWalksUptoRow : OpenClaim := { program := "ytgbppblofiogbaa", sum := "ba0cf349d4783f71517617cc28ab5acb9c00c2464b8bfddc8474d5d6a5ac8227", func := "tympan/tympanlaw41.FontWalks", spec := "fontWalks", unfollowed := true, recurses := true, apart := false, narrowed := true }
def FontWalksUptoSaid : Prop := fontWalksUptoRow.holds Try.pinned (OpenSpec.upto fontWalksSpec)

/-- 'tympanlaw41.FontParts', WHERE WHAT IT READS IS OF BULK AT MOST 1048576: true; the input reads as it did. -/
def fontPartsUptoRow : OpenClaim := { program := "ytgbppblofiogbaa", sum := "ba0cf349d4783f71517617cc28ab5acb9c00c2464b8bfddc8474d5d6a5ac8227", func := "tympan/tympanlaw41.FontParts", spec := "fontParts", unfollowed := true, recurses := true, apart := false, narrowed := true }
def FontPartsUptoSaid : Prop := fontPartsUptoRow.holds Try.pinned (OpenSpec.upto fontPartsSpec)

/-- 'tympanlaw41.FontAlone', WHERE WHAT IT READS IS OF BULK AT MOST 1048576: true; the input reads as it did. -/
def fontAloneUptoRow : OpenClaim := { program := "ytgbppblofiogbaa", sum := "ba0cf349d4783f71517617cc28ab5acb9c00c2464b8bfddc8474d5d6a5ac8227", func := "tympan/tympanlaw41.FontAlone", spec := "fontAlone", unfollowed := true, recurses := true, apart := false, narrowed := true }
def FontAloneUptoSaid : Prop := fontAloneUptoRow.holds Try.pinned (OpenSpec.upto fontAloneSpec)

/-- 'tympanlaw41.FontMoves', WHERE WHAT IT READS IS OF BULK AT MOST 1048576: true; the input reads as it did. -/
def fontMovesUptoRow : OpenClaim := { program := "ytgbppblofiogbaa", sum := "ba0cf349d4783f71517617cc28ab5acb9c00c2464b8bfddc8474d5d6a5ac8227", func := "tympan/tympanlaw41.FontMoves", spec := "fontMoves", unfollowed := true, recurses := true, apart := false, narrowed := true }
def FontMovesUptoSaid : Prop := fontMovesUptoRow.holds Try.pinned (OpenSpec.upto fontMovesSpec)

end Rows
end Go.Proofs.Ytgbppblofiogbaa
