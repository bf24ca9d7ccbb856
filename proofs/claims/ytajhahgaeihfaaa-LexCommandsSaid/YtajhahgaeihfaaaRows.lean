/-
  No cell of these rows narrows 'for every input' (looked for: loops, veiled, ifaces, maps, wideKeys, modest, calm, conditions, laid).
  DERIVED. THE GIVEN ROWS OF THIS SEAT. 6 by the template 'for every input the law returns true; each argument reads behind the call as it read before'; 0 by the template 'total and deterministic' (their statements: YtajhahgaeihfaaaTotals.lean).
  GIVEN WITH THE SEED: the statements are not yours to turn. If you find one false, say at which input.
  Laid BY PROGRAM, IN A SANDBOX (cutbox-rows.mjs): the forced cells as the released guide's own fill.sh prints them over the translation 1caf1d07a8c11205… (all of the seat's roots in one cut). By AI agents, Wed Nov 11 2026. No macro, syntax, notation, axiom, sorry.
-/
import Derived.Test.YtajhahgaeihfaaaChecked
import GoSem.Claim
import GoSem.ClaimJoined
import GoSem.ClaimMapViews
import Derived.JoinedTies
import Derived.KernelRfl
namespace Go.Proofs.Ytajhahgaeihfaaa
/- THE CELL 'sum', in the pinned program and in every row, IS THE sha256 OF THE DUMP (.gsa) THAT YtajhahgaeihfaaaProg.lean LOADS. Nothing in Lean hashes anything: it is a label: what it is worth is what the hold of that sum in a sandbox is worth. -/
noncomputable def Try.pinned : Pinned := { name := "ytajhahgaeihfaaa", sum := "1caf1d07a8c11205227885c9dc74bafcf4f4f07a60a4ce79b53cf0154e686ae9", checked := Try.checked }
namespace Rows
def none {H : Type} : Left H := { results := [], args := [] }

/-- 'kibitzerlaw13.ConfRights': WHATEVER THE INPUT: true; the input reads as it did. -/
def confRightsSpec : ChangeSpec := { name := "confRights", fn := fun _ => fun
  | [d] => { results := [.lit (.bool true)], args := [d] }
  | _ => none }
def confRightsRow : OpenClaim := { program := "ytajhahgaeihfaaa", sum := "1caf1d07a8c11205227885c9dc74bafcf4f4f07a60a4ce79b53cf0154e686ae9", func := "kibitzer/kibitzerlaw13.ConfRights", spec := "confRights", apart := false }
def ConfRightsSaid : Prop := confRightsRow.holds Try.pinned (OpenSpec.ofChange confRightsSpec)

/-- ITS FALSE NEIGHBOUR: 'it returns false'. Refute it at one input. -/
def confRightsWrong : ChangeSpec := { name := "confRights", fn := fun _ => fun
  | [d] => { results := [.lit (.bool false)], args := [d] }
  | _ => none }
def ConfRightsWrongFalsely : Prop := confRightsRow.holds Try.pinned (OpenSpec.ofChange confRightsWrong)

/-- 'kibitzerlaw13.ConfBounds': WHATEVER THE INPUT: true; the input reads as it did. -/
def confBoundsSpec : ChangeSpec := { name := "confBounds", fn := fun _ => fun
  | [d1, d2] => { results := [.lit (.bool true)], args := [d1, d2] }
  | _ => none }
def confBoundsRow : OpenClaim := { program := "ytajhahgaeihfaaa", sum := "1caf1d07a8c11205227885c9dc74bafcf4f4f07a60a4ce79b53cf0154e686ae9", func := "kibitzer/kibitzerlaw13.ConfBounds", spec := "confBounds", apart := false }
def ConfBoundsSaid : Prop := confBoundsRow.holds Try.pinned (OpenSpec.ofChange confBoundsSpec)

/-- ITS FALSE NEIGHBOUR: 'it returns false'. Refute it at one input. -/
def confBoundsWrong : ChangeSpec := { name := "confBounds", fn := fun _ => fun
  | [d1, d2] => { results := [.lit (.bool false)], args := [d1, d2] }
  | _ => none }
def ConfBoundsWrongFalsely : Prop := confBoundsRow.holds Try.pinned (OpenSpec.ofChange confBoundsWrong)

/-- 'kibitzerlaw08.LexPieces': WHATEVER THE INPUT: true; the input reads as it did. -/
def lexPiecesSpec : ChangeSpec := { name := "lexPieces", fn := fun _ => fun
  | [d] => { results := [.lit (.bool true)], args := [d] }
  | _ => none }
def lexPiecesRow : OpenClaim := { program := "ytajhahgaeihfaaa", sum := "1caf1d07a8c11205227885c9dc74bafcf4f4f07a60a4ce79b53cf0154e686ae9", func := "kibitzer/kibitzerlaw08.LexPieces", spec := "lexPieces", apart := false }
def LexPiecesSaid : Prop := lexPiecesRow.holds Try.pinned (OpenSpec.ofChange lexPiecesSpec)

/-- ITS FALSE NEIGHBOUR: 'it returns false'. Refute it at one input. -/
def lexPiecesWrong : ChangeSpec := { name := "lexPieces", fn := fun _ => fun
  | [d] => { results := [.lit (.bool false)], args := [d] }
  | _ => none }
def LexPiecesWrongFalsely : Prop := lexPiecesRow.holds Try.pinned (OpenSpec.ofChange lexPiecesWrong)

/-- 'kibitzerlaw08.LexPlain': WHATEVER THE INPUT: true; the input reads as it did. -/
def lexPlainSpec : ChangeSpec := { name := "lexPlain", fn := fun _ => fun
  | [d] => { results := [.lit (.bool true)], args := [d] }
  | _ => none }
def lexPlainRow : OpenClaim := { program := "ytajhahgaeihfaaa", sum := "1caf1d07a8c11205227885c9dc74bafcf4f4f07a60a4ce79b53cf0154e686ae9", func := "kibitzer/kibitzerlaw08.LexPlain", spec := "lexPlain", apart := false }
def LexPlainSaid : Prop := lexPlainRow.holds Try.pinned (OpenSpec.ofChange lexPlainSpec)

/-- ITS FALSE NEIGHBOUR: 'it returns false'. Refute it at one input. -/
def lexPlainWrong : ChangeSpec := { name := "lexPlain", fn := fun _ => fun
  | [d] => { results := [.lit (.bool false)], args := [d] }
  | _ => none }
def LexPlainWrongFalsely : Prop := lexPlainRow.holds Try.pinned (OpenSpec.ofChange lexPlainWrong)

/-- 'kibitzerlaw08.LexLong': WHATEVER THE INPUT: true; the input reads as it did. -/
def lexLongSpec : ChangeSpec := { name := "lexLong", fn := fun _ => fun
  | [d1, d2] => { results := [.lit (.bool true)], args := [d1, d2] }
  | _ => none }
def lexLongRow : OpenClaim := { program := "ytajhahgaeihfaaa", sum := "1caf1d07a8c11205227885c9dc74bafcf4f4f07a60a4ce79b53cf0154e686ae9", func := "kibitzer/kibitzerlaw08.LexLong", spec := "lexLong", apart := false }
def LexLongSaid : Prop := lexLongRow.holds Try.pinned (OpenSpec.ofChange lexLongSpec)

/-- ITS FALSE NEIGHBOUR: 'it returns false'. Refute it at one input. -/
def lexLongWrong : ChangeSpec := { name := "lexLong", fn := fun _ => fun
  | [d1, d2] => { results := [.lit (.bool false)], args := [d1, d2] }
  | _ => none }
def LexLongWrongFalsely : Prop := lexLongRow.holds Try.pinned (OpenSpec.ofChange lexLongWrong)

/-- 'kibitzerlaw08.LexCommands': WHATEVER THE INPUT: true; the input reads as it did. -/
def lexCommandsSpec : ChangeSpec := { name := "lexCommands", fn := fun _ => fun
  | [d1, d2, d3] => { results := [.lit (.bool true)], args := [d1, d2, d3] }
  | _ => none }
def lexCommandsRow : OpenClaim := { program := "ytajhahgaeihfaaa", sum := "1caf1d07a8c11205227885c9dc74bafcf4f4f07a60a4ce79b53cf0154e686ae9", func := "kibitzer/kibitzerlaw08.LexCommands", spec := "lexCommands", apart := false }
def LexCommandsSaid : Prop := lexCommandsRow.holds Try.pinned (OpenSpec.ofChange lexCommandsSpec)

/-- ITS FALSE NEIGHBOUR: 'it returns false'. Refute it at one input. -/
def lexCommandsWrong : ChangeSpec := { name := "lexCommands", fn := fun _ => fun
  | [d1, d2, d3] => { results := [.lit (.bool false)], args := [d1, d2, d3] }
  | _ => none }
def LexCommandsWrongFalsely : Prop := lexCommandsRow.holds Try.pinned (OpenSpec.ofChange lexCommandsWrong)

/- THE SECOND FORM. 'bulk': how many values and letters a reading holds, each counted each time it is reached (what is shared counts as often as it is met; a slice's spare places count too). A statement '..UptoSaid' is the law's where the arguments, and the package variables that the reading takes, are together of bulk at most 1048576: NARROWER than '..Said'. Prove '..Said' where nothing that the law and all that it calls make is longer than what came in: it says more and counts as full. Else prove '..UptoSaid'. A law counts once. -/
mutual
def uptoBulk {H : Type} : DataW H → Nat
  | .lit (.string bytes) => bytes.length + 1
  | .lit _ => 1
  | .nil => 1
  | .ptr d => uptoBulk d + 1
  | .slice elems spare => uptoBulkAll elems + uptoBulkAll spare + 1
  | .agg parts => uptoBulkAll parts + 1
  | .iface _ d => uptoBulk d + 1
  | .map entries => uptoBulkEntries entries + 1
  | .held _ => 1
def uptoBulkAll {H : Type} : List (DataW H) → Nat
  | [] => 0
  | d :: r => uptoBulk d + uptoBulkAll r
def uptoBulkEntries {H : Type} : List (Lit × DataW H) → Nat
  | [] => 0
  | x :: r => uptoBulkEntry x + uptoBulkEntries r
def uptoBulkEntry {H : Type} : Lit × DataW H → Nat
  | (.string bytes, d) => bytes.length + uptoBulk d + 1
  | (_, d) => uptoBulk d + 1
 end
def uptoSmall : (H : Type) → List (DataW H) → Bool := fun _ ds => decide (uptoBulkAll ds ≤ 1048576)
def OpenSpec.upto (s : _root_.Go.ChangeSpec) : _root_.Go.OpenSpec := { _root_.Go.OpenSpec.ofChange s with cond := some uptoSmall }

/-- 'kibitzerlaw13.ConfRights', WHERE WHAT IT READS IS OF BULK AT MOST 1048576: true; the input reads as it did. -/
def confRightsUptoRow : OpenClaim := { program := "ytajhahgaeihfaaa", sum := "1caf1d07a8c11205227885c9dc74bafcf4f4f07a60a4ce79b53cf0154e686ae9", func := "kibitzer/kibitzerlaw13.ConfRights", spec := "confRights", apart := false, narrowed := true }
def ConfRightsUptoSaid : Prop := confRightsUptoRow.holds Try.pinned (OpenSpec.upto confRightsSpec)

/-- 'kibitzerlaw13.ConfBounds', WHERE WHAT IT READS IS OF BULK AT MOST 1048576: true; the input reads as it did. -/
def confBoundsUptoRow : OpenClaim := { program := "ytajhahgaeihfaaa", sum := "1caf1d07a8c11205227885c9dc74bafcf4f4f07a60a4ce79b53cf0154e686ae9", func := "kibitzer/kibitzerlaw13.ConfBounds", spec := "confBounds", apart := false, narrowed := true }
def ConfBoundsUptoSaid : Prop := confBoundsUptoRow.holds Try.pinned (OpenSpec.upto confBoundsSpec)

/-- 'kibitzerlaw08.LexPieces', WHERE WHAT IT READS IS OF BULK AT MOST 1048576: true; the input reads as it did. -/
def lexPiecesUptoRow : OpenClaim := { program := "ytajhahgaeihfaaa", sum := "1caf1d07a8c11205227885c9dc74bafcf4f4f07a60a4ce79b53cf0154e686ae9", func := "kibitzer/kibitzerlaw08.LexPieces", spec := "lexPieces", apart := false, narrowed := true }
def LexPiecesUptoSaid : Prop := lexPiecesUptoRow.holds Try.pinned (OpenSpec.upto lexPiecesSpec)

/-- 'kibitzerlaw08.LexPlain', WHERE WHAT IT READS IS OF BULK AT MOST 1048576: true; the input reads as it did. -/
def lexPlainUptoRow : OpenClaim := { program := "ytajhahgaeihfaaa", sum := "1caf1d07a8c11205227885c9dc74bafcf4f4f07a60a4ce79b53cf0154e686ae9", func := "kibitzer/kibitzerlaw08.LexPlain", spec := "lexPlain", apart := false, narrowed := true }
def LexPlainUptoSaid : Prop := lexPlainUptoRow.holds Try.pinned (OpenSpec.upto lexPlainSpec)

/-- 'kibitzerlaw08.LexLong', WHERE WHAT IT READS IS OF BULK AT MOST 1048576: true; the input reads as it did. -/
def lexLongUptoRow : OpenClaim := { program := "ytajhahgaeihfaaa", sum := "1caf1d07a8c11205227885c9dc74bafcf4f4f07a60a4ce79b53cf0154e686ae9", func := "kibitzer/kibitzerlaw08.LexLong", spec := "lexLong", apart := false, narrowed := true }
def LexLongUptoSaid : Prop := lexLongUptoRow.holds Try.pinned (OpenSpec.upto lexLongSpec)

/-- 'kibitzerlaw08.LexCommands', WHERE WHAT IT READS IS OF BULK AT MOST 1048576: true; the input reads as it did. -/
def lexCommandsUptoRow : OpenClaim := { program := "ytajhahgaeihfaaa", sum := "1caf1d07a8c11205227885c9dc74bafcf4f4f07a60a4ce79b53cf0154e686ae9", func := "kibitzer/kibitzerlaw08.LexCommands", spec := "lexCommands", apart := false, narrowed := true }
def LexCommandsUptoSaid : Prop := lexCommandsUptoRow.holds Try.pinned (OpenSpec.upto lexCommandsSpec)

end Rows
end Go.Proofs.Ytajhahgaeihfaaa
