/-
  No cell of these rows narrows 'for every input' (looked for: loops, veiled, ifaces, maps, wideKeys, modest, calm, conditions, laid).
  DERIVED. THE GIVEN ROWS OF THIS SEAT. 4 by the template 'for every input the law returns true; each argument reads behind the call as it read before'; 0 by the template 'total and deterministic' (their statements: YtgkkafihipaieaaTotals.lean).
  GIVEN WITH THE SEED: the statements are not yours to turn. If you find one false, say at which input.
  Laid BY PROGRAM, IN A SANDBOX (cutbox-rows.mjs): the forced cells as the released guide's own fill.sh prints them over the translation 4bbd70339d4fdb62… (all of the seat's roots in one cut). By AI agents, Wed Nov 11 2026. No macro, syntax, notation, axiom, sorry.
-/
import Derived.Test.YtgkkafihipaieaaChecked
import GoSem.Claim
import GoSem.ClaimJoined
import GoSem.ClaimMapViews
import Derived.JoinedTies
import Derived.KernelRfl
namespace Go.Proofs.Ytgkkafihipaieaa
/- THE CELL 'sum', in the pinned program and in every row, IS THE sha256 OF THE DUMP (.gsa) THAT YtgkkafihipaieaaProg.lean LOADS. Nothing in Lean hashes anything: it is a label: what it is worth is what the hold of that sum in a sandbox is worth. -/
noncomputable def Try.pinned : Pinned := { name := "ytgkkafihipaieaa", sum := "4bbd70339d4fdb621dac02513a548d23ac571048f626839db63ae3ea86b99ede", checked := Try.checked }
namespace Rows
def none {H : Type} : Left H := { results := [], args := [] }

/-- 'kibitzerlaw07.SpotPuts': WHATEVER THE INPUT: true; the input reads as it did. -/
def spotPutsSpec : ChangeSpec := { name := "spotPuts", fn := fun _ => fun
  | [d1, d2] => { results := [.lit (.bool true)], args := [d1, d2] }
  | _ => none }
def spotPutsRow : OpenClaim := { program := "ytgkkafihipaieaa", sum := "4bbd70339d4fdb621dac02513a548d23ac571048f626839db63ae3ea86b99ede", func := "kibitzer/kibitzerlaw07.SpotPuts", spec := "spotPuts", apart := false }
def SpotPutsSaid : Prop := spotPutsRow.holds Try.pinned (OpenSpec.ofChange spotPutsSpec)

/-- ITS FALSE NEIGHBOUR: 'it returns false'. Refute it at one input. -/
def spotPutsWrong : ChangeSpec := { name := "spotPuts", fn := fun _ => fun
  | [d1, d2] => { results := [.lit (.bool false)], args := [d1, d2] }
  | _ => none }
def SpotPutsWrongFalsely : Prop := spotPutsRow.holds Try.pinned (OpenSpec.ofChange spotPutsWrong)

/-- 'kibitzerlaw07.SpotSigns': WHATEVER THE INPUT: true; the input reads as it did. -/
def spotSignsSpec : ChangeSpec := { name := "spotSigns", fn := fun _ => fun
  | [d1, d2] => { results := [.lit (.bool true)], args := [d1, d2] }
  | _ => none }
def spotSignsRow : OpenClaim := { program := "ytgkkafihipaieaa", sum := "4bbd70339d4fdb621dac02513a548d23ac571048f626839db63ae3ea86b99ede", func := "kibitzer/kibitzerlaw07.SpotSigns", spec := "spotSigns", apart := false }
def SpotSignsSaid : Prop := spotSignsRow.holds Try.pinned (OpenSpec.ofChange spotSignsSpec)

/-- ITS FALSE NEIGHBOUR: 'it returns false'. Refute it at one input. -/
def spotSignsWrong : ChangeSpec := { name := "spotSigns", fn := fun _ => fun
  | [d1, d2] => { results := [.lit (.bool false)], args := [d1, d2] }
  | _ => none }
def SpotSignsWrongFalsely : Prop := spotSignsRow.holds Try.pinned (OpenSpec.ofChange spotSignsWrong)

/-- 'kibitzerlaw07.SpotRounds': WHATEVER THE INPUT: true; the input reads as it did. -/
def spotRoundsSpec : ChangeSpec := { name := "spotRounds", fn := fun _ => fun
  | [d1, d2, d3] => { results := [.lit (.bool true)], args := [d1, d2, d3] }
  | _ => none }
def spotRoundsRow : OpenClaim := { program := "ytgkkafihipaieaa", sum := "4bbd70339d4fdb621dac02513a548d23ac571048f626839db63ae3ea86b99ede", func := "kibitzer/kibitzerlaw07.SpotRounds", spec := "spotRounds", apart := false }
def SpotRoundsSaid : Prop := spotRoundsRow.holds Try.pinned (OpenSpec.ofChange spotRoundsSpec)

/-- ITS FALSE NEIGHBOUR: 'it returns false'. Refute it at one input. -/
def spotRoundsWrong : ChangeSpec := { name := "spotRounds", fn := fun _ => fun
  | [d1, d2, d3] => { results := [.lit (.bool false)], args := [d1, d2, d3] }
  | _ => none }
def SpotRoundsWrongFalsely : Prop := spotRoundsRow.holds Try.pinned (OpenSpec.ofChange spotRoundsWrong)

/-- 'kibitzerlaw07.SpotPieces': WHATEVER THE INPUT: true; the input reads as it did. -/
def spotPiecesSpec : ChangeSpec := { name := "spotPieces", fn := fun _ => fun
  | [d1, d2] => { results := [.lit (.bool true)], args := [d1, d2] }
  | _ => none }
def spotPiecesRow : OpenClaim := { program := "ytgkkafihipaieaa", sum := "4bbd70339d4fdb621dac02513a548d23ac571048f626839db63ae3ea86b99ede", func := "kibitzer/kibitzerlaw07.SpotPieces", spec := "spotPieces", apart := false }
def SpotPiecesSaid : Prop := spotPiecesRow.holds Try.pinned (OpenSpec.ofChange spotPiecesSpec)

/-- ITS FALSE NEIGHBOUR: 'it returns false'. Refute it at one input. -/
def spotPiecesWrong : ChangeSpec := { name := "spotPieces", fn := fun _ => fun
  | [d1, d2] => { results := [.lit (.bool false)], args := [d1, d2] }
  | _ => none }
def SpotPiecesWrongFalsely : Prop := spotPiecesRow.holds Try.pinned (OpenSpec.ofChange spotPiecesWrong)

/- THE SECOND FORM. 'bulk': how many values and letters a reading holds, each counted each time it is reached (what is shared counts as often as it is met; a slice's spare places count too). A statement '..UptoSaid' is the law's where the arguments, and the package variables that the reading takes, are together of bulk at most 1048576: NARROWER than '..Said'. Prove '..Said' where nothing that the law and all that it calls make is longer than what came in: it says more and counts as full. Else prove '..UptoSaid'. A law counts once. -/
mutual
def uptoBulk {H : Type} : DataW H → Nat
  | .lit (.string bytes) => bytes.length + 1
  | .lit _ => 1
  | .nil => 1
  | .ptr d => uptoBulk d + 1
  | .slice elems spare => uptoBulkAll elems + uptoBulkAll spare + 1
  | .agg parts => uptoBulkAll parts + 1
  | .iface _ d => uptoBulk d + 1
  | .map entries => uptoBulkEntries entries + 1
  | .held _ => 1
def uptoBulkAll {H : Type} : List (DataW H) → Nat
  | [] => 0
  | d :: r => uptoBulk d + uptoBulkAll r
def uptoBulkEntries {H : Type} : List (Lit × DataW H) → Nat
  | [] => 0
  | x :: r => uptoBulkEntry x + uptoBulkEntries r
def uptoBulkEntry {H : Type} : Lit × DataW H → Nat
  | (.string bytes, d) => bytes.length + uptoBulk d + 1
  | (_, d) => uptoBulk d + 1
 end
def uptoSmall : (H : Type) → List (DataW H) → Bool := fun _ ds => decide (uptoBulkAll ds ≤ 1048576)
def OpenSpec.upto (s : _root_.Go.ChangeSpec) : _root_.Go.OpenSpec := { _root_.Go.OpenSpec.ofChange s with cond := some uptoSmall }

/-- 'kibitzerlaw07.SpotPuts', WHERE WHAT IT READS IS OF BULK AT MOST 1048576: true; the input reads as it did. -/
def spotPutsUptoRow : OpenClaim := { program := "ytgkkafihipaieaa", sum := "4bbd70339d4fdb621dac02513a548d23ac571048f626839db63ae3ea86b99ede", func := "kibitzer/kibitzerlaw07.SpotPuts", spec := "spotPuts", apart := false, narrowed := true }
def SpotPutsUptoSaid : Prop := spotPutsUptoRow.holds Try.pinned (OpenSpec.upto spotPutsSpec)

/-- 'kibitzerlaw07.SpotSigns', WHERE WHAT IT READS IS OF BULK AT MOST 1048576: true; the input reads as it did. -/
def spotSignsUptoRow : OpenClaim := { program := "ytgkkafihipaieaa", sum := "4bbd70339d4fdb621dac02513a548d23ac571048f626839db63ae3ea86b99ede", func := "kibitzer/kibitzerlaw07.SpotSigns", spec := "spotSigns", apart := false, narrowed := true }
def SpotSignsUptoSaid : Prop := spotSignsUptoRow.holds Try.pinned (OpenSpec.upto spotSignsSpec)

/-- 'kibitzerlaw07.SpotRounds', WHERE WHAT IT READS IS OF BULK AT MOST 1048576: true; the input reads as it did. -/
def spotRoundsUptoRow : OpenClaim := { program := "ytgkkafihipaieaa", sum := "4bbd70339d4fdb621dac02513a548d23ac571048f626839db63ae3ea86b99ede", func := "kibitzer/kibitzerlaw07.SpotRounds", spec := "spotRounds", apart := false, narrowed := true }
def SpotRoundsUptoSaid : Prop := spotRoundsUptoRow.holds Try.pinned (OpenSpec.upto spotRoundsSpec)

/-- 'kibitzerlaw07.SpotPieces', WHERE WHAT IT READS IS OF BULK AT MOST 1048576: true; the input reads as it did. -/
def spotPiecesUptoRow : OpenClaim := { program := "ytgkkafihipaieaa", sum := "4bbd70339d4fdb621dac02513a548d23ac571048f626839db63ae3ea86b99ede", func := "kibitzer/kibitzerlaw07.SpotPieces", spec := "spotPieces", apart := false, narrowed := true }
def SpotPiecesUptoSaid : Prop := spotPiecesUptoRow.holds Try.pinned (OpenSpec.upto spotPiecesSpec)

end Rows
end Go.Proofs.Ytgkkafihipaieaa
