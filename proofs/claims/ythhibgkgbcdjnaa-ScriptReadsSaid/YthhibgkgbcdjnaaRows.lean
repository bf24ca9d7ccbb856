/-
  No cell of these rows narrows 'for every input' (looked for: loops, veiled, ifaces, maps, wideKeys, modest, calm, conditions, laid).
  DERIVED. THE GIVEN ROWS OF THIS SEAT. 4 by the template 'for every input the law returns true; each argument reads behind the call as it read before'; 0 by the template 'total and deterministic' (their statements: YthhibgkgbcdjnaaTotals.lean).
  GIVEN WITH THE SEED: the statements are not yours to turn. If you find one false, say at which input.
  Laid BY PROGRAM, IN A SANDBOX (cutbox-rows.mjs): the forced cells as the released guide's own fill.sh prints them over the translation 9df9a0dff9e39cc5… (all of the seat's roots in one cut). By AI agents, Wed Nov 11 2026. No macro, syntax, notation, axiom, sorry.
-/
import Derived.Test.YthhibgkgbcdjnaaChecked
import GoSem.Claim
import GoSem.ClaimJoined
import GoSem.ClaimMapViews
import Derived.JoinedTies
import Derived.KernelRfl
namespace Go.Proofs.Ythhibgkgbcdjnaa
/- THE CELL 'sum', in the pinned program and in every row, IS THE sha256 OF THE DUMP (.gsa) THAT YthhibgkgbcdjnaaProg.lean LOADS. Nothing in Lean hashes anything: it is a label: what it is worth is what the hold of that sum in a sandbox is worth. -/
noncomputable def Try.pinned : Pinned := { name := "ythhibgkgbcdjnaa", sum := "9df9a0dff9e39cc555fe66a66d3cebebe14aabb8088e0fb7fe169d3e7229684a", checked := Try.checked }
namespace Rows
def none {H : Type} : Left H := { results := [], args := [] }

/-- 'kibitzerlaw16.ScriptBytes': WHATEVER THE INPUT: true; the input reads as it did. -/
def scriptBytesSpec : ChangeSpec := { name := "scriptBytes", fn := fun _ => fun
  | [d1, d2] => { results := [.lit (.bool true)], args := [d1, d2] }
  | _ => none }
def scriptBytesRow : OpenClaim := { program := "ythhibgkgbcdjnaa", sum := "9df9a0dff9e39cc555fe66a66d3cebebe14aabb8088e0fb7fe169d3e7229684a", func := "kibitzer/kibitzerlaw16.ScriptBytes", spec := "scriptBytes", apart := false }
def ScriptBytesSaid : Prop := scriptBytesRow.holds Try.pinned (OpenSpec.ofChange scriptBytesSpec)

/-- ITS FALSE NEIGHBOUR: 'it returns false'. Refute it at one input. -/
def scriptBytesWrong : ChangeSpec := { name := "scriptBytes", fn := fun _ => fun
  | [d1, d2] => { results := [.lit (.bool false)], args := [d1, d2] }
  | _ => none }
def ScriptBytesWrongFalsely : Prop := scriptBytesRow.holds Try.pinned (OpenSpec.ofChange scriptBytesWrong)

/-- 'kibitzerlaw16.ScriptReads': WHATEVER THE INPUT: true; the input reads as it did. -/
def scriptReadsSpec : ChangeSpec := { name := "scriptReads", fn := fun _ => fun
  | [d] => { results := [.lit (.bool true)], args := [d] }
  | _ => none }
def scriptReadsRow : OpenClaim := { program := "ythhibgkgbcdjnaa", sum := "9df9a0dff9e39cc555fe66a66d3cebebe14aabb8088e0fb7fe169d3e7229684a", func := "kibitzer/kibitzerlaw16.ScriptReads", spec := "scriptReads", apart := false }
def ScriptReadsSaid : Prop := scriptReadsRow.holds Try.pinned (OpenSpec.ofChange scriptReadsSpec)

/-- ITS FALSE NEIGHBOUR: 'it returns false'. Refute it at one input. -/
def scriptReadsWrong : ChangeSpec := { name := "scriptReads", fn := fun _ => fun
  | [d] => { results := [.lit (.bool false)], args := [d] }
  | _ => none }
def ScriptReadsWrongFalsely : Prop := scriptReadsRow.holds Try.pinned (OpenSpec.ofChange scriptReadsWrong)

/-- 'kibitzerlaw16.ScriptCuts': WHATEVER THE INPUT: true; the input reads as it did. -/
def scriptCutsSpec : ChangeSpec := { name := "scriptCuts", fn := fun _ => fun
  | [d1, d2, d3, d4] => { results := [.lit (.bool true)], args := [d1, d2, d3, d4] }
  | _ => none }
def scriptCutsRow : OpenClaim := { program := "ythhibgkgbcdjnaa", sum := "9df9a0dff9e39cc555fe66a66d3cebebe14aabb8088e0fb7fe169d3e7229684a", func := "kibitzer/kibitzerlaw16.ScriptCuts", spec := "scriptCuts", apart := false }
def ScriptCutsSaid : Prop := scriptCutsRow.holds Try.pinned (OpenSpec.ofChange scriptCutsSpec)

/-- ITS FALSE NEIGHBOUR: 'it returns false'. Refute it at one input. -/
def scriptCutsWrong : ChangeSpec := { name := "scriptCuts", fn := fun _ => fun
  | [d1, d2, d3, d4] => { results := [.lit (.bool false)], args := [d1, d2, d3, d4] }
  | _ => none }
def ScriptCutsWrongFalsely : Prop := scriptCutsRow.holds Try.pinned (OpenSpec.ofChange scriptCutsWrong)

/-- 'kibitzerlaw16.ScriptMany': WHATEVER THE INPUT: true; the input reads as it did. -/
def scriptManySpec : ChangeSpec := { name := "scriptMany", fn := fun _ => fun
  | [d] => { results := [.lit (.bool true)], args := [d] }
  | _ => none }
def scriptManyRow : OpenClaim := { program := "ythhibgkgbcdjnaa", sum := "9df9a0dff9e39cc555fe66a66d3cebebe14aabb8088e0fb7fe169d3e7229684a", func := "kibitzer/kibitzerlaw16.ScriptMany", spec := "scriptMany", apart := false }
def ScriptManySaid : Prop := scriptManyRow.holds Try.pinned (OpenSpec.ofChange scriptManySpec)

/-- ITS FALSE NEIGHBOUR: 'it returns false'. Refute it at one input. -/
def scriptManyWrong : ChangeSpec := { name := "scriptMany", fn := fun _ => fun
  | [d] => { results := [.lit (.bool false)], args := [d] }
  | _ => none }
def ScriptManyWrongFalsely : Prop := scriptManyRow.holds Try.pinned (OpenSpec.ofChange scriptManyWrong)

/- THE SECOND FORM. 'bulk': how many values and letters a reading holds, each counted each time it is reached (what is shared counts as often as it is met; a slice's spare places count too). A statement '..UptoSaid' is the law's where the arguments, and the package variables that the reading takes, are together of bulk at most 1048576: NARROWER than '..Said'. Prove '..Said' where nothing that the law and all that it calls make is longer than what came in: it says more and counts as full. Else prove '..UptoSaid'. A law counts once. -/
mutual
def uptoBulk {H : Type} : DataW H → Nat
  | .lit (.string bytes) => bytes.length + 1
  | .lit _ => 1
  | .nil => 1
  | .ptr d => uptoBulk d + 1
  | .slice elems spare => uptoBulkAll elems + uptoBulkAll spare + 1
  | .agg parts => uptoBulkAll parts + 1
  | .iface _ d => uptoBulk d + 1
  | .map entries => uptoBulkEntries entries + 1
  | .held _ => 1
def uptoBulkAll {H : Type} : List (DataW H) → Nat
  | [] => 0
  | d :: r => uptoBulk d + uptoBulkAll r
def uptoBulkEntries {H : Type} : List (Lit × DataW H) → Nat
  | [] => 0
  | x :: r => uptoBulkEntry x + uptoBulkEntries r
def uptoBulkEntry {H : Type} : Lit × DataW H → Nat
  | (.string bytes, d) => bytes.length + uptoBulk d + 1
  | (_, d) => uptoBulk d + 1
 end
def uptoSmall : (H : Type) → List (DataW H) → Bool := fun _ ds => decide (uptoBulkAll ds ≤ 1048576)
def OpenSpec.upto (s : _root_.Go.ChangeSpec) : _root_.Go.OpenSpec := { _root_.Go.OpenSpec.ofChange s with cond := some uptoSmall }

/-- 'kibitzerlaw16.ScriptBytes', WHERE WHAT IT READS IS OF BULK AT MOST 1048576: true; the input reads as it did. -/
def scriptBytesUptoRow : OpenClaim := { program := "ythhibgkgbcdjnaa", sum := "9df9a0dff9e39cc555fe66a66d3cebebe14aabb8088e0fb7fe169d3e7229684a", func := "kibitzer/kibitzerlaw16.ScriptBytes", spec := "scriptBytes", apart := false, narrowed := true }
def ScriptBytesUptoSaid : Prop := scriptBytesUptoRow.holds Try.pinned (OpenSpec.upto scriptBytesSpec)

/-- 'kibitzerlaw16.ScriptReads', WHERE WHAT IT READS IS OF BULK AT MOST 1048576: true; the input reads as it did. -/
def scriptReadsUptoRow : OpenClaim := { program := "ythhibgkgbcdjnaa", sum := "9df9a0dff9e39cc555fe66a66d3cebebe14aabb8088e0fb7fe169d3e7229684a", func := "kibitzer/kibitzerlaw16.ScriptReads", spec := "scriptReads", apart := false, narrowed := true }
def ScriptReadsUptoSaid : Prop := scriptReadsUptoRow.holds Try.pinned (OpenSpec.upto scriptReadsSpec)

/-- 'kibitzerlaw16.ScriptCuts', WHERE WHAT IT READS IS OF BULK AT MOST 1048576: true; the input reads as it did. -/
def scriptCutsUptoRow : OpenClaim := { program := "ythhibgkgbcdjnaa", sum := "9df9a0dff9e39cc555fe66a66d3cebebe14aabb8088e0fb7fe169d3e7229684a", func := "kibitzer/kibitzerlaw16.ScriptCuts", spec := "scriptCuts", apart := false, narrowed := true }
def ScriptCutsUptoSaid : Prop := scriptCutsUptoRow.holds Try.pinned (OpenSpec.upto scriptCutsSpec)

/-- 'kibitzerlaw16.ScriptMany', WHERE WHAT IT READS IS OF BULK AT MOST 1048576: true; the input reads as it did. -/
def scriptManyUptoRow : OpenClaim := { program := "ythhibgkgbcdjnaa", sum := "9df9a0dff9e39cc555fe66a66d3cebebe14aabb8088e0fb7fe169d3e7229684a", func := "kibitzer/kibitzerlaw16.ScriptMany", spec := "scriptMany", apart := false, narrowed := true }
def ScriptManyUptoSaid : Prop := scriptManyUptoRow.holds Try.pinned (OpenSpec.upto scriptManySpec)

end Rows
end Go.Proofs.Ythhibgkgbcdjnaa
