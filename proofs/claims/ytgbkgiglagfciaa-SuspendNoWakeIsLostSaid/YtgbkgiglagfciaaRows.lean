/-
  No cell of these rows narrows 'for every input' (looked for: loops, veiled, ifaces, maps, wideKeys, modest, calm, conditions, laid).
  DERIVED. THE GIVEN ROWS OF THIS SEAT. 9 by the template 'for every input the law returns true; each argument reads behind the call as it read before'; 0 by the template 'total and deterministic' (their statements: YtgbkgiglagfciaaTotals.lean).
  GIVEN WITH THE SEED: the statements are not yours to turn. If you find one false, say at which input.
  Laid BY PROGRAM, IN A SANDBOX (cutbox-rows.mjs): the forced cells as the released guide's own fill.sh prints them over the translation 9278728743aa31fd… (all of the seat's roots in one cut). By AI agents, Wed Nov 11 2026. No macro, syntax, notation, axiom, sorry.
-/
import Derived.Test.YtgbkgiglagfciaaChecked
import GoSem.Claim
import GoSem.ClaimJoined
import GoSem.ClaimMapViews
import Derived.JoinedTies
import Derived.KernelRfl
namespace Go.Proofs.Ytgbkgiglagfciaa
/- THE CELL 'sum', in the pinned program and in every row, IS THE sha256 OF THE DUMP (.gsa) THAT YtgbkgiglagfciaaProg.lean LOADS. Nothing in Lean hashes anything: it is a label: what it is worth is what the hold of that sum in a sandbox is worth. -/
noncomputable def Try.pinned : Pinned := { name := "ytgbkgiglagfciaa", sum := "9278728743aa31fd6559a8346ce33d3c0e745f5a5bdb9840f2c69a7aa1fb7a04", checked := Try.checked }
namespace Rows
def none {H : Type} : Left H := { results := [], args := [] }

/-- 'platformfwlaw30.SuspendTraceAgrees': WHATEVER THE INPUT: true; the input reads as it did. -/
def suspendTraceAgreesSpec : ChangeSpec := { name := "suspendTraceAgrees", fn := fun _ => fun
  | [d1, d2, d3, d4] => { results := [.lit (.bool true)], args := [d1, d2, d3, d4] }
  | _ => none }
def suspendTraceAgreesRow : OpenClaim := { program := "ytgbkgiglagfciaa", sum := "9278728743aa31fd6559a8346ce33d3c0e745f5a5bdb9840f2c69a7aa1fb7a04", func := "platformfw/platformfwlaw30.SuspendTraceAgrees", spec := "suspendTraceAgrees", plainKeys := false, apart := false }
def SuspendTraceAgreesSaid : Prop := suspendTraceAgreesRow.holds Try.pinned (OpenSpec.ofChange suspendTraceAgreesSpec)

/-- ITS FALSE NEIGHBOUR: 'it returns false'. Refute it at one input. -/
def suspendTraceAgreesWrong : ChangeSpec := { name := "suspendTraceAgrees", fn := fun _ => fun
  | [d1, d2, d3, d4] => { results := [.lit (.bool false)], args := [d1, d2, d3, d4] }
  | _ => none }
def SuspendTraceAgreesWrongFalsely : Prop := suspendTraceAgreesRow.holds Try.pinned (OpenSpec.ofChange suspendTraceAgreesWrong)

/-- 'platformfwlaw30.SuspendNewAgrees': WHATEVER THE INPUT: true; the input reads as it did. -/
def suspendNewAgreesSpec : ChangeSpec := { name := "suspendNewAgrees", fn := fun _ => fun
  | [d1, d2, d3] => { results := [.lit (.bool true)], args := [d1, d2, d3] }
  | _ => none }
def suspendNewAgreesRow : OpenClaim := { program := "ytgbkgiglagfciaa", sum := "9278728743aa31fd6559a8346ce33d3c0e745f5a5bdb9840f2c69a7aa1fb7a04", func := "platformfw/platformfwlaw30.SuspendNewAgrees", spec := "suspendNewAgrees", plainKeys := false, apart := false }
def SuspendNewAgreesSaid : Prop := suspendNewAgreesRow.holds Try.pinned (OpenSpec.ofChange suspendNewAgreesSpec)

/-- ITS FALSE NEIGHBOUR: 'it returns false'. Refute it at one input. -/
def suspendNewAgreesWrong : ChangeSpec := { name := "suspendNewAgrees", fn := fun _ => fun
  | [d1, d2, d3] => { results := [.lit (.bool false)], args := [d1, d2, d3] }
  | _ => none }
def SuspendNewAgreesWrongFalsely : Prop := suspendNewAgreesRow.holds Try.pinned (OpenSpec.ofChange suspendNewAgreesWrong)

/-- 'platformfwlaw30.SuspendMirrors': WHATEVER THE INPUT: true; the input reads as it did. -/
def suspendMirrorsSpec : ChangeSpec := { name := "suspendMirrors", fn := fun _ => fun
  | [d] => { results := [.lit (.bool true)], args := [d] }
  | _ => none }
def suspendMirrorsRow : OpenClaim := { program := "ytgbkgiglagfciaa", sum := "9278728743aa31fd6559a8346ce33d3c0e745f5a5bdb9840f2c69a7aa1fb7a04", func := "platformfw/platformfwlaw30.SuspendMirrors", spec := "suspendMirrors", plainKeys := false, apart := false }
def SuspendMirrorsSaid : Prop := suspendMirrorsRow.holds Try.pinned (OpenSpec.ofChange suspendMirrorsSpec)

/-- ITS FALSE NEIGHBOUR: 'it returns false'. Refute it at one input. -/
def suspendMirrorsWrong : ChangeSpec := { name := "suspendMirrors", fn := fun _ => fun
  | [d] => { results := [.lit (.bool false)], args := [d] }
  | _ => none }
def SuspendMirrorsWrongFalsely : Prop := suspendMirrorsRow.holds Try.pinned (OpenSpec.ofChange suspendMirrorsWrong)

/-- 'platformfwlaw30.SuspendFirstErrorIsResult': WHATEVER THE INPUT: true; the input reads as it did. -/
def suspendFirstErrorIsResultSpec : ChangeSpec := { name := "suspendFirstErrorIsResult", fn := fun _ => fun
  | [d1, d2] => { results := [.lit (.bool true)], args := [d1, d2] }
  | _ => none }
def suspendFirstErrorIsResultRow : OpenClaim := { program := "ytgbkgiglagfciaa", sum := "9278728743aa31fd6559a8346ce33d3c0e745f5a5bdb9840f2c69a7aa1fb7a04", func := "platformfw/platformfwlaw30.SuspendFirstErrorIsResult", spec := "suspendFirstErrorIsResult", plainKeys := false, apart := false }
def SuspendFirstErrorIsResultSaid : Prop := suspendFirstErrorIsResultRow.holds Try.pinned (OpenSpec.ofChange suspendFirstErrorIsResultSpec)

/-- ITS FALSE NEIGHBOUR: 'it returns false'. Refute it at one input. -/
def suspendFirstErrorIsResultWrong : ChangeSpec := { name := "suspendFirstErrorIsResult", fn := fun _ => fun
  | [d1, d2] => { results := [.lit (.bool false)], args := [d1, d2] }
  | _ => none }
def SuspendFirstErrorIsResultWrongFalsely : Prop := suspendFirstErrorIsResultRow.holds Try.pinned (OpenSpec.ofChange suspendFirstErrorIsResultWrong)

/-- 'platformfwlaw30.SuspendCallsAgree': WHATEVER THE INPUT: true; the input reads as it did. -/
def suspendCallsAgreeSpec : ChangeSpec := { name := "suspendCallsAgree", fn := fun _ => fun
  | [d1, d2, d3] => { results := [.lit (.bool true)], args := [d1, d2, d3] }
  | _ => none }
def suspendCallsAgreeRow : OpenClaim := { program := "ytgbkgiglagfciaa", sum := "9278728743aa31fd6559a8346ce33d3c0e745f5a5bdb9840f2c69a7aa1fb7a04", func := "platformfw/platformfwlaw30.SuspendCallsAgree", spec := "suspendCallsAgree", plainKeys := false, apart := false }
def SuspendCallsAgreeSaid : Prop := suspendCallsAgreeRow.holds Try.pinned (OpenSpec.ofChange suspendCallsAgreeSpec)

/-- ITS FALSE NEIGHBOUR: 'it returns false'. Refute it at one input. -/
def suspendCallsAgreeWrong : ChangeSpec := { name := "suspendCallsAgree", fn := fun _ => fun
  | [d1, d2, d3] => { results := [.lit (.bool false)], args := [d1, d2, d3] }
  | _ => none }
def SuspendCallsAgreeWrongFalsely : Prop := suspendCallsAgreeRow.holds Try.pinned (OpenSpec.ofChange suspendCallsAgreeWrong)

/-- 'platformfwlaw30.SuspendUndoesExactly': WHATEVER THE INPUT: true; the input reads as it did. -/
def suspendUndoesExactlySpec : ChangeSpec := { name := "suspendUndoesExactly", fn := fun _ => fun
  | [d1, d2, d3, d4] => { results := [.lit (.bool true)], args := [d1, d2, d3, d4] }
  | _ => none }
def suspendUndoesExactlyRow : OpenClaim := { program := "ytgbkgiglagfciaa", sum := "9278728743aa31fd6559a8346ce33d3c0e745f5a5bdb9840f2c69a7aa1fb7a04", func := "platformfw/platformfwlaw30.SuspendUndoesExactly", spec := "suspendUndoesExactly", plainKeys := false, apart := false }
def SuspendUndoesExactlySaid : Prop := suspendUndoesExactlyRow.holds Try.pinned (OpenSpec.ofChange suspendUndoesExactlySpec)

/-- ITS FALSE NEIGHBOUR: 'it returns false'. Refute it at one input. -/
def suspendUndoesExactlyWrong : ChangeSpec := { name := "suspendUndoesExactly", fn := fun _ => fun
  | [d1, d2, d3, d4] => { results := [.lit (.bool false)], args := [d1, d2, d3, d4] }
  | _ => none }
def SuspendUndoesExactlyWrongFalsely : Prop := suspendUndoesExactlyRow.holds Try.pinned (OpenSpec.ofChange suspendUndoesExactlyWrong)

/-- 'platformfwlaw30.SuspendAbortLikeFailure': WHATEVER THE INPUT: true; the input reads as it did. -/
def suspendAbortLikeFailureSpec : ChangeSpec := { name := "suspendAbortLikeFailure", fn := fun _ => fun
  | [d1, d2, d3] => { results := [.lit (.bool true)], args := [d1, d2, d3] }
  | _ => none }
def suspendAbortLikeFailureRow : OpenClaim := { program := "ytgbkgiglagfciaa", sum := "9278728743aa31fd6559a8346ce33d3c0e745f5a5bdb9840f2c69a7aa1fb7a04", func := "platformfw/platformfwlaw30.SuspendAbortLikeFailure", spec := "suspendAbortLikeFailure", plainKeys := false, apart := false }
def SuspendAbortLikeFailureSaid : Prop := suspendAbortLikeFailureRow.holds Try.pinned (OpenSpec.ofChange suspendAbortLikeFailureSpec)

/-- ITS FALSE NEIGHBOUR: 'it returns false'. Refute it at one input. -/
def suspendAbortLikeFailureWrong : ChangeSpec := { name := "suspendAbortLikeFailure", fn := fun _ => fun
  | [d1, d2, d3] => { results := [.lit (.bool false)], args := [d1, d2, d3] }
  | _ => none }
def SuspendAbortLikeFailureWrongFalsely : Prop := suspendAbortLikeFailureRow.holds Try.pinned (OpenSpec.ofChange suspendAbortLikeFailureWrong)

/-- 'platformfwlaw30.SuspendRespectsDependencies': WHATEVER THE INPUT: true; the input reads as it did. -/
def suspendRespectsDependenciesSpec : ChangeSpec := { name := "suspendRespectsDependencies", fn := fun _ => fun
  | [d1, d2] => { results := [.lit (.bool true)], args := [d1, d2] }
  | _ => none }
def suspendRespectsDependenciesRow : OpenClaim := { program := "ytgbkgiglagfciaa", sum := "9278728743aa31fd6559a8346ce33d3c0e745f5a5bdb9840f2c69a7aa1fb7a04", func := "platformfw/platformfwlaw30.SuspendRespectsDependencies", spec := "suspendRespectsDependencies", plainKeys := false, apart := false }
def SuspendRespectsDependenciesSaid : Prop := suspendRespectsDependenciesRow.holds Try.pinned (OpenSpec.ofChange suspendRespectsDependenciesSpec)

/-- ITS FALSE NEIGHBOUR: 'it returns false'. Refute it at one input. -/
def suspendRespectsDependenciesWrong : ChangeSpec := { name := "suspendRespectsDependencies", fn := fun _ => fun
  | [d1, d2] => { results := [.lit (.bool false)], args := [d1, d2] }
  | _ => none }
def SuspendRespectsDependenciesWrongFalsely : Prop := suspendRespectsDependenciesRow.holds Try.pinned (OpenSpec.ofChange suspendRespectsDependenciesWrong)

/-- 'platformfwlaw30.SuspendNoWakeIsLost': WHATEVER THE INPUT: true; the input reads as it did. -/
def suspendNoWakeIsLostSpec : ChangeSpec := { name := "suspendNoWakeIsLost", fn := fun _ => fun
  | [d1, d2, d3, d4, d5] => { results := [.lit (.bool true)], args := [d1, d2, d3, d4, d5] }
  | _ => none }
def suspendNoWakeIsLostRow : OpenClaim := { program := "ytgbkgiglagfciaa", sum := "9278728743aa31fd6559a8346ce33d3c0e745f5a5bdb9840f2c69a7aa1fb7a04", func := "platformfw/platformfwlaw30.SuspendNoWakeIsLost", spec := "suspendNoWakeIsLost", plainKeys := false, apart := false }
def SuspendNoWakeIsLostSaid : Prop := suspendNoWakeIsLostRow.holds Try.pinned (OpenSpec.ofChange suspendNoWakeIsLostSpec)

/-- ITS FALSE NEIGHBOUR: 'it returns false'. Refute it at one input. -/
def suspendNoWakeIsLostWrong : ChangeSpec := { name := "suspendNoWakeIsLost", fn := fun _ => fun
  | [d1, d2, d3, d4, d5] => { results := [.lit (.bool false)], args := [d1, d2, d3, d4, d5] }
  | _ => none }
def SuspendNoWakeIsLostWrongFalsely : Prop := suspendNoWakeIsLostRow.holds Try.pinned (OpenSpec.ofChange suspendNoWakeIsLostWrong)

/- THE SECOND FORM. 'bulk': how many values and letters a reading holds, each counted each time it is reached (what is shared counts as often as it is met; a slice's spare places count too). A statement '..UptoSaid' is the law's where the arguments, and the package variables that the reading takes, are together of bulk at most 1048576: NARROWER than '..Said'. Prove '..Said' where nothing that the law and all that it calls make is longer than what came in: it says more and counts as full. Else prove '..UptoSaid'. A law counts once. -/
mutual
def uptoBulk {H : Type} : DataW H → Nat
  | .lit (.string bytes) => bytes.length + 1
  | .lit _ => 1
  | .nil => 1
  | .ptr d => uptoBulk d + 1
  | .slice elems spare => uptoBulkAll elems + uptoBulkAll spare + 1
  | .agg parts => uptoBulkAll parts + 1
  | .iface _ d => uptoBulk d + 1
  | .map entries => uptoBulkEntries entries + 1
  | .held _ => 1
def uptoBulkAll {H : Type} : List (DataW H) → Nat
  | [] => 0
  | d :: r => uptoBulk d + uptoBulkAll r
def uptoBulkEntries {H : Type} : List (Lit × DataW H) → Nat
  | [] => 0
  | x :: r => uptoBulkEntry x + uptoBulkEntries r
def uptoBulkEntry {H : Type} : Lit × DataW H → Nat
  | (.string bytes, d) => bytes.length + uptoBulk d + 1
  | (_, d) => uptoBulk d + 1
 end
def uptoSmall : (H : Type) → List (DataW H) → Bool := fun _ ds => decide (uptoBulkAll ds ≤ 1048576)
def OpenSpec.upto (s : _root_.Go.ChangeSpec) : _root_.Go.OpenSpec := { _root_.Go.OpenSpec.ofChange s with cond := some uptoSmall }

/-- 'platformfwlaw30.SuspendTraceAgrees', WHERE WHAT IT READS IS OF BULK AT MOST 1048576: true; the input reads as it did. -/
def suspendTraceAgreesUptoRow : OpenClaim := { program := "ytgbkgiglagfciaa", sum := "9278728743aa31fd6559a8346ce33d3c0e745f5a5bdb9840f2c69a7aa1fb7a04", func := "platformfw/platformfwlaw30.SuspendTraceAgrees", spec := "suspendTraceAgrees", plainKeys := false, apart := false, narrowed := true }
def SuspendTraceAgreesUptoSaid : Prop := suspendTraceAgreesUptoRow.holds Try.pinned (OpenSpec.upto suspendTraceAgreesSpec)

/-- 'platformfwlaw30.SuspendNewAgrees', WHERE WHAT IT READS IS OF BULK AT MOST 1048576: true; the input reads as it did. -/
def suspendNewAgreesUptoRow : OpenClaim := { program := "ytgbkgiglagfciaa", sum := "9278728743aa31fd6559a8346ce33d3c0e745f5a5bdb9840f2c69a7aa1fb7a04", func := "platformfw/platformfwlaw30.SuspendNewAgrees", spec := "suspendNewAgrees", plainKeys := false, apart := false, narrowed := true }
def SuspendNewAgreesUptoSaid : Prop := suspendNewAgreesUptoRow.holds Try.pinned (OpenSpec.upto suspendNewAgreesSpec)

/-- 'platformfwlaw30.SuspendMirrors', WHERE WHAT IT READS IS OF BULK AT MOST 1048576: true; the input reads as it did. -/
def suspendMirrorsUptoRow : OpenClaim := { program := "ytgbkgiglagfciaa", sum := "9278728743aa31fd6559a8346ce33d3c0e745f5a5bdb9840f2c69a7aa1fb7a04", func := "platformfw/platformfwlaw30.SuspendMirrors", spec := "suspendMirrors", plainKeys := false, apart := false, narrowed := true }
def SuspendMirrorsUptoSaid : Prop := suspendMirrorsUptoRow.holds Try.pinned (OpenSpec.upto suspendMirrorsSpec)

/-- 'platformfwlaw30.SuspendFirstErrorIsResult', WHERE WHAT IT READS IS OF BULK AT MOST 1048576: true; the input reads as it did. -/
def suspendFirstErrorIsResultUptoRow : OpenClaim := { program := "ytgbkgiglagfciaa", sum := "9278728743aa31fd6559a8346ce33d3c0e745f5a5bdb9840f2c69a7aa1fb7a04", func := "platformfw/platformfwlaw30.SuspendFirstErrorIsResult", spec := "suspendFirstErrorIsResult", plainKeys := false, apart := false, narrowed := true }
def SuspendFirstErrorIsResultUptoSaid : Prop := suspendFirstErrorIsResultUptoRow.holds Try.pinned (OpenSpec.upto suspendFirstErrorIsResultSpec)

/-- 'platformfwlaw30.SuspendCallsAgree', WHERE WHAT IT READS IS OF BULK AT MOST 1048576: true; the input reads as it did. -/
def suspendCallsAgreeUptoRow : OpenClaim := { program := "ytgbkgiglagfciaa", sum := "9278728743aa31fd6559a8346ce33d3c0e745f5a5bdb9840f2c69a7aa1fb7a04", func := "platformfw/platformfwlaw30.SuspendCallsAgree", spec := "suspendCallsAgree", plainKeys := false, apart := false, narrowed := true }
def SuspendCallsAgreeUptoSaid : Prop := suspendCallsAgreeUptoRow.holds Try.pinned (OpenSpec.upto suspendCallsAgreeSpec)

/-- 'platformfwlaw30.SuspendUndoesExactly', WHERE WHAT IT READS IS OF BULK AT MOST 1048576: true; the input reads as it did. -/
def suspendUndoesExactlyUptoRow : OpenClaim := { program := "ytgbkgiglagfciaa", sum := "9278728743aa31fd6559a8346ce33d3c0e745f5a5bdb9840f2c69a7aa1fb7a04", func := "platformfw/platformfwlaw30.SuspendUndoesExactly", spec := "suspendUndoesExactly", plainKeys := false, apart := false, narrowed := true }
def SuspendUndoesExactlyUptoSaid : Prop := suspendUndoesExactlyUptoRow.holds Try.pinned (OpenSpec.upto suspendUndoesExactlySpec)

/-- 'platformfwlaw30.SuspendAbortLikeFailure', WHERE WHAT IT READS IS OF BULK AT MOST 1048576: true; the input reads as it did. -/
def suspendAbortLikeFailureUptoRow : OpenClaim := { program := "ytgbkgiglagfciaa", sum := "9278728743aa31fd6559a8346ce33d3c0e745f5a5bdb9840f2c69a7aa1fb7a04", func := "platformfw/platformfwlaw30.SuspendAbortLikeFailure", spec := "suspendAbortLikeFailure", plainKeys := false, apart := false, narrowed := true }
def SuspendAbortLikeFailureUptoSaid : Prop := suspendAbortLikeFailureUptoRow.holds Try.pinned (OpenSpec.upto suspendAbortLikeFailureSpec)

/-- 'platformfwlaw30.SuspendRespectsDependencies', WHERE WHAT IT READS IS OF BULK AT MOST 1048576: true; the input reads as it did. -/
def suspendRespectsDependenciesUptoRow : OpenClaim := { program := "ytgbkgiglagfciaa", sum := "9278728743aa31fd6559a8346ce33d3c0e745f5a5bdb9840f2c69a7aa1fb7a04", func := "platformfw/platformfwlaw30.SuspendRespectsDependencies", spec := "suspendRespectsDependencies", plainKeys := false, apart := false, narrowed := true }
def SuspendRespectsDependenciesUptoSaid : Prop := suspendRespectsDependenciesUptoRow.holds Try.pinned (OpenSpec.upto suspendRespectsDependenciesSpec)

/-- 'platformfwlaw30.SuspendNoWakeIsLost', WHERE WHAT IT READS IS OF BULK AT MOST 1048576: true; the input reads as it did. -/
def suspendNoWakeIsLostUptoRow : OpenClaim := { program := "ytgbkgiglagfciaa", sum := "9278728743aa31fd6559a8346ce33d3c0e745f5a5bdb9840f2c69a7aa1fb7a04", func := "platformfw/platformfwlaw30.SuspendNoWakeIsLost", spec := "suspendNoWakeIsLost", plainKeys := false, apart := false, narrowed := true }
def SuspendNoWakeIsLostUptoSaid : Prop := suspendNoWakeIsLostUptoRow.holds Try.pinned (OpenSpec.upto suspendNoWakeIsLostSpec)

end Rows
end Go.Proofs.Ytgbkgiglagfciaa
