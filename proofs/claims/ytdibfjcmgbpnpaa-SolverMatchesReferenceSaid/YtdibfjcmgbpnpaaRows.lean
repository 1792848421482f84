/-
  No cell of these rows narrows 'for every input' (looked for: loops, veiled, ifaces, maps, wideKeys, modest, calm, conditions, laid).
  DERIVED. THE GIVEN ROWS OF THIS SEAT. 7 by the template 'for every input the law returns true; each argument reads behind the call as it read before'; 0 by the template 'total and deterministic' (their statements: YtdibfjcmgbpnpaaTotals.lean).
  GIVEN WITH THE SEED: the statements are not yours to turn. If you find one false, say at which input.
  Laid BY PROGRAM, IN A SANDBOX (cutbox-rows.mjs): the forced cells as the released guide's own fill.sh prints them over the translation 42b83080894b0416… (all of the seat's roots in one cut). By AI agents, Wed Nov 11 2026. No macro, syntax, notation, axiom, sorry.
-/
import Derived.Test.YtdibfjcmgbpnpaaChecked
import GoSem.Claim
import GoSem.ClaimJoined
import GoSem.ClaimMapViews
import Derived.JoinedTies
import Derived.KernelRfl
namespace Go.Proofs.Ytdibfjcmgbpnpaa
/- THE CELL 'sum', in the pinned program and in every row, IS THE sha256 OF THE DUMP (.gsa) THAT YtdibfjcmgbpnpaaProg.lean LOADS. Nothing in Lean hashes anything: it is a label: what it is worth is what the hold of that sum in a sandbox is worth. -/
noncomputable def Try.pinned : Pinned := { name := "ytdibfjcmgbpnpaa", sum := "42b83080894b041620a0a69773f41a9a775a8df14475afe42a27a49ff3eff123", checked := Try.checked }
namespace Rows
def none {H : Type} : Left H := { results := [], args := [] }

/-- 'armaturelaw21.SolverMatchesReference': WHATEVER THE INPUT: true; the input reads as it did. -/
def solverMatchesReferenceSpec : ChangeSpec := { name := "solverMatchesReference", fn := fun _ => fun
  | [d1, d2] => { results := [.lit (.bool true)], args := [d1, d2] }
  | _ => none }
def solverMatchesReferenceRow : OpenClaim := { program := "ytdibfjcmgbpnpaa", sum := "42b83080894b041620a0a69773f41a9a775a8df14475afe42a27a49ff3eff123", func := "armature/armaturelaw21.SolverMatchesReference", spec := "solverMatchesReference", unfollowed := true, recurses := true, apart := false }
def SolverMatchesReferenceSaid : Prop := solverMatchesReferenceRow.holds Try.pinned (OpenSpec.ofChange solverMatchesReferenceSpec)

/-- ITS FALSE NEIGHBOUR: 'it returns false'. Refute it at one input. -/
def solverMatchesReferenceWrong : ChangeSpec := { name := "solverMatchesReference", fn := fun _ => fun
  | [d1, d2] => { results := [.lit (.bool false)], args := [d1, d2] }
  | _ => none }
def SolverMatchesReferenceWrongFalsely : Prop := solverMatchesReferenceRow.holds Try.pinned (OpenSpec.ofChange solverMatchesReferenceWrong)

/-- 'armaturelaw21.SolverModels': WHATEVER THE INPUT: true; the input reads as it did. -/
def solverModelsSpec : ChangeSpec := { name := "solverModels", fn := fun _ => fun
  | [d1, d2, d3, d4, d5] => { results := [.lit (.bool true)], args := [d1, d2, d3, d4, d5] }
  | _ => none }
def solverModelsRow : OpenClaim := { program := "ytdibfjcmgbpnpaa", sum := "42b83080894b041620a0a69773f41a9a775a8df14475afe42a27a49ff3eff123", func := "armature/armaturelaw21.SolverModels", spec := "solverModels", unfollowed := true, recurses := true, apart := false }
def SolverModelsSaid : Prop := solverModelsRow.holds Try.pinned (OpenSpec.ofChange solverModelsSpec)

/-- ITS FALSE NEIGHBOUR: 'it returns false'. Refute it at one input. -/
def solverModelsWrong : ChangeSpec := { name := "solverModels", fn := fun _ => fun
  | [d1, d2, d3, d4, d5] => { results := [.lit (.bool false)], args := [d1, d2, d3, d4, d5] }
  | _ => none }
def SolverModelsWrongFalsely : Prop := solverModelsRow.holds Try.pinned (OpenSpec.ofChange solverModelsWrong)

/-- 'armaturelaw21.SolverCores': WHATEVER THE INPUT: true; the input reads as it did. -/
def solverCoresSpec : ChangeSpec := { name := "solverCores", fn := fun _ => fun
  | [d1, d2, d3, d4] => { results := [.lit (.bool true)], args := [d1, d2, d3, d4] }
  | _ => none }
def solverCoresRow : OpenClaim := { program := "ytdibfjcmgbpnpaa", sum := "42b83080894b041620a0a69773f41a9a775a8df14475afe42a27a49ff3eff123", func := "armature/armaturelaw21.SolverCores", spec := "solverCores", unfollowed := true, recurses := true, apart := false }
def SolverCoresSaid : Prop := solverCoresRow.holds Try.pinned (OpenSpec.ofChange solverCoresSpec)

/-- ITS FALSE NEIGHBOUR: 'it returns false'. Refute it at one input. -/
def solverCoresWrong : ChangeSpec := { name := "solverCores", fn := fun _ => fun
  | [d1, d2, d3, d4] => { results := [.lit (.bool false)], args := [d1, d2, d3, d4] }
  | _ => none }
def SolverCoresWrongFalsely : Prop := solverCoresRow.holds Try.pinned (OpenSpec.ofChange solverCoresWrong)

/-- 'armaturelaw21.SolverProofs': WHATEVER THE INPUT: true; the input reads as it did. -/
def solverProofsSpec : ChangeSpec := { name := "solverProofs", fn := fun _ => fun
  | [d1, d2, d3, d4] => { results := [.lit (.bool true)], args := [d1, d2, d3, d4] }
  | _ => none }
def solverProofsRow : OpenClaim := { program := "ytdibfjcmgbpnpaa", sum := "42b83080894b041620a0a69773f41a9a775a8df14475afe42a27a49ff3eff123", func := "armature/armaturelaw21.SolverProofs", spec := "solverProofs", unfollowed := true, recurses := true, apart := false }
def SolverProofsSaid : Prop := solverProofsRow.holds Try.pinned (OpenSpec.ofChange solverProofsSpec)

/-- ITS FALSE NEIGHBOUR: 'it returns false'. Refute it at one input. -/
def solverProofsWrong : ChangeSpec := { name := "solverProofs", fn := fun _ => fun
  | [d1, d2, d3, d4] => { results := [.lit (.bool false)], args := [d1, d2, d3, d4] }
  | _ => none }
def SolverProofsWrongFalsely : Prop := solverProofsRow.holds Try.pinned (OpenSpec.ofChange solverProofsWrong)

/-- 'armaturelaw21.SolverIncrements': WHATEVER THE INPUT: true; the input reads as it did. -/
def solverIncrementsSpec : ChangeSpec := { name := "solverIncrements", fn := fun _ => fun
  | [d1, d2, d3, d4] => { results := [.lit (.bool true)], args := [d1, d2, d3, d4] }
  | _ => none }
def solverIncrementsRow : OpenClaim := { program := "ytdibfjcmgbpnpaa", sum := "42b83080894b041620a0a69773f41a9a775a8df14475afe42a27a49ff3eff123", func := "armature/armaturelaw21.SolverIncrements", spec := "solverIncrements", unfollowed := true, recurses := true, apart := false }
def SolverIncrementsSaid : Prop := solverIncrementsRow.holds Try.pinned (OpenSpec.ofChange solverIncrementsSpec)

/-- ITS FALSE NEIGHBOUR: 'it returns false'. Refute it at one input. -/
def solverIncrementsWrong : ChangeSpec := { name := "solverIncrements", fn := fun _ => fun
  | [d1, d2, d3, d4] => { results := [.lit (.bool false)], args := [d1, d2, d3, d4] }
  | _ => none }
def SolverIncrementsWrongFalsely : Prop := solverIncrementsRow.holds Try.pinned (OpenSpec.ofChange solverIncrementsWrong)

/-- 'armaturelaw21.SolverDeterministic': WHATEVER THE INPUT: true; the input reads as it did. -/
def solverDeterministicSpec : ChangeSpec := { name := "solverDeterministic", fn := fun _ => fun
  | [d1, d2, d3] => { results := [.lit (.bool true)], args := [d1, d2, d3] }
  | _ => none }
def solverDeterministicRow : OpenClaim := { program := "ytdibfjcmgbpnpaa", sum := "42b83080894b041620a0a69773f41a9a775a8df14475afe42a27a49ff3eff123", func := "armature/armaturelaw21.SolverDeterministic", spec := "solverDeterministic", unfollowed := true, recurses := true, apart := false }
def SolverDeterministicSaid : Prop := solverDeterministicRow.holds Try.pinned (OpenSpec.ofChange solverDeterministicSpec)

/-- ITS FALSE NEIGHBOUR: 'it returns false'. Refute it at one input. -/
def solverDeterministicWrong : ChangeSpec := { name := "solverDeterministic", fn := fun _ => fun
  | [d1, d2, d3] => { results := [.lit (.bool false)], args := [d1, d2, d3] }
  | _ => none }
def SolverDeterministicWrongFalsely : Prop := solverDeterministicRow.holds Try.pinned (OpenSpec.ofChange solverDeterministicWrong)

/-- 'armaturelaw21.SolverInterrupted': WHATEVER THE INPUT: true; the input reads as it did. -/
def solverInterruptedSpec : ChangeSpec := { name := "solverInterrupted", fn := fun _ => fun
  | [d1, d2, d3, d4] => { results := [.lit (.bool true)], args := [d1, d2, d3, d4] }
  | _ => none }
def solverInterruptedRow : OpenClaim := { program := "ytdibfjcmgbpnpaa", sum := "42b83080894b041620a0a69773f41a9a775a8df14475afe42a27a49ff3eff123", func := "armature/armaturelaw21.SolverInterrupted", spec := "solverInterrupted", unfollowed := true, recurses := true, apart := false }
def SolverInterruptedSaid : Prop := solverInterruptedRow.holds Try.pinned (OpenSpec.ofChange solverInterruptedSpec)

/-- ITS FALSE NEIGHBOUR: 'it returns false'. Refute it at one input. -/
def solverInterruptedWrong : ChangeSpec := { name := "solverInterrupted", fn := fun _ => fun
  | [d1, d2, d3, d4] => { results := [.lit (.bool false)], args := [d1, d2, d3, d4] }
  | _ => none }
def SolverInterruptedWrongFalsely : Prop := solverInterruptedRow.holds Try.pinned (OpenSpec.ofChange solverInterruptedWrong)

/- THE SECOND FORM. 'bulk': how many values and letters a reading holds, each counted each time it is reached (what is shared counts as often as it is met; a slice's spare places count too). A statement '..UptoSaid' is the law's where the arguments, and the package variables that the reading takes, are together of bulk at most 1048576: NARROWER than '..Said'. Prove '..Said' where nothing that the law and all that it calls make is longer than what came in: it says more and counts as full. Else prove '..UptoSaid'. A law counts once. -/
mutual
def uptoBulk {H : Type} : DataW H → Nat
  | .lit (.string bytes) => bytes.length + 1
  | .lit _ => 1
  | .nil => 1
  | .ptr d => uptoBulk d + 1
  | .slice elems spare => uptoBulkAll elems + uptoBulkAll spare + 1
  | .agg parts => uptoBulkAll parts + 1
  | .iface _ d => uptoBulk d + 1
  | .map entries => uptoBulkEntries entries + 1
  | .held _ => 1
def uptoBulkAll {H : Type} : List (DataW H) → Nat
  | [] => 0
  | d :: r => uptoBulk d + uptoBulkAll r
def uptoBulkEntries {H : Type} : List (Lit × DataW H) → Nat
  | [] => 0
  | x :: r => uptoBulkEntry x + uptoBulkEntries r
def uptoBulkEntry {H : Type} : Lit × DataW H → Nat
  | (.string bytes, d) => bytes.length + uptoBulk d + 1
  | (_, d) => uptoBulk d + 1
 end
def uptoSmall : (H : Type) → List (DataW H) → Bool := fun _ ds => decide (uptoBulkAll ds ≤ 1048576)
def OpenSpec.upto (s : _root_.Go.ChangeSpec) : _root_.Go.OpenSpec := { _root_.Go.OpenSpec.ofChange s with cond := some uptoSmall }

/-- 'armaturelaw21.SolverMatchesReference', WHERE WHAT IT READS IS OF BULK AT MOST 1048576: true; the input reads as it did. -/
def solverMatchesReferenceUptoRow : OpenClaim := { program := "ytdibfjcmgbpnpaa", sum := "42b83080894b041620a0a69773f41a9a775a8df14475afe42a27a49ff3eff123", func := "armature/armaturelaw21.SolverMatchesReference", spec := "solverMatchesReference", unfollowed := true, recurses := true, apart := false, narrowed := true }
def SolverMatchesReferenceUptoSaid : Prop := solverMatchesReferenceUptoRow.holds Try.pinned (OpenSpec.upto solverMatchesReferenceSpec)

/-- 'armaturelaw21.SolverModels', WHERE WHAT IT READS IS OF BULK AT MOST 1048576: true; the input reads as it did. -/
def solverModelsUptoRow : OpenClaim := { program := "ytdibfjcmgbpnpaa", sum := "42b83080894b041620a0a69773f41a9a775a8df14475afe42a27a49ff3eff123", func := "armature/armaturelaw21.SolverModels", spec := "solverModels", unfollowed := true, recurses := true, apart := false, narrowed := true }
def SolverModelsUptoSaid : Prop := solverModelsUptoRow.holds Try.pinned (OpenSpec.upto solverModelsSpec)

/-- 'armaturelaw21.SolverCores', WHERE WHAT IT READS IS OF BULK AT MOST 1048576: true; the input reads as it did. -/
def solverCoresUptoRow : OpenClaim := { program := "ytdibfjcmgbpnpaa", sum := "42b83080894b041620a0a69773f41a9a775a8df14475afe42a27a49ff3eff123", func := "armature/armaturelaw21.SolverCores", spec := "solverCores", unfollowed := true, recurses := true, apart := false, narrowed := true }
def SolverCoresUptoSaid : Prop := solverCoresUptoRow.holds Try.pinned (OpenSpec.upto solverCoresSpec)

/-- 'armaturelaw21.SolverProofs', WHERE WHAT IT READS IS OF BULK AT MOST 1048576: true; the input reads as it did. -/
def solverProofsUptoRow : OpenClaim := { program := "ytdibfjcmgbpnpaa", sum := "42b83080894b041620a0a69773f41a9a775a8df14475afe42a27a49ff3eff123", func := "armature/armaturelaw21.SolverProofs", spec := "solverProofs", unfollowed := true, recurses := true, apart := false, narrowed := true }
def SolverProofsUptoSaid : Prop := solverProofsUptoRow.holds Try.pinned (OpenSpec.upto solverProofsSpec)

/-- 'armaturelaw21.SolverIncrements', WHERE WHAT IT READS IS OF BULK AT MOST 1048576: true; the input reads as it did. -/
def solverIncrementsUptoRow : OpenClaim := { program := "ytdibfjcmgbpnpaa", sum := "42b83080894b041620a0a69773f41a9a775a8df14475afe42a27a49ff3eff123", func := "armature/armaturelaw21.SolverIncrements", spec := "solverIncrements", unfollowed := true, recurses := true, apart := false, narrowed := true }
def SolverIncrementsUptoSaid : Prop := solverIncrementsUptoRow.holds Try.pinned (OpenSpec.upto solverIncrementsSpec)

/-- 'armaturelaw21.SolverDeterministic', WHERE WHAT IT READS IS OF BULK AT MOST 1048576: true; the input reads as it did. -/
def solverDeterministicUptoRow : OpenClaim := { program := "ytdibfjcmgbpnpaa", sum := "42b83080894b041620a0a69773f41a9a775a8df14475afe42a27a49ff3eff123", func := "armature/armaturelaw21.SolverDeterministic", spec := "solverDeterministic", unfollowed := true, recurses := true, apart := false, narrowed := true }
def SolverDeterministicUptoSaid : Prop := solverDeterministicUptoRow.holds Try.pinned (OpenSpec.upto solverDeterministicSpec)

/-- 'armaturelaw21.SolverInterrupted', WHERE WHAT IT READS IS OF BULK AT MOST 1048576: true; the input reads as it did. -/
def solverInterruptedUptoRow : OpenClaim := { program := "ytdibfjcmgbpnpaa", sum := "42b83080894b041620a0a69773f41a9a775a8df14475afe42a27a49ff3eff123", func := "armature/armaturelaw21.SolverInterrupted", spec := "solverInterrupted", unfollowed := true, recurses := true, apart := false, narrowed := true }
def SolverInterruptedUptoSaid : Prop := solverInterruptedUptoRow.holds Try.pinned (OpenSpec.upto solverInterruptedSpec)

end Rows
end Go.Proofs.Ytdibfjcmgbpnpaa
