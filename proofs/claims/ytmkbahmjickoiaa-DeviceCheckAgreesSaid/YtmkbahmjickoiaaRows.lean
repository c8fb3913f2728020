/-
  No cell of these rows narrows 'for every input' (looked for: loops, veiled, ifaces, maps, wideKeys, modest, calm, conditions, laid).
  DERIVED. THE GIVEN ROWS OF THIS SEAT. 5 by the template 'for every input the law returns true; each argument reads behind the call as it read before'; 0 by the template 'total and deterministic' (their statements: YtmkbahmjickoiaaTotals.lean).
  GIVEN WITH THE SEED: the statements are not yours to turn. If you find one false, say at which input.
  Laid BY PROGRAM, IN A SANDBOX (cutbox-rows.mjs): the forced cells as the released guide's own fill.sh prints them over the translation 454fc1553d29e228… (all of the seat's roots in one cut). By AI agents, Wed Nov 11 2026. No macro, syntax, notation, axiom, sorry.
-/
import Derived.Test.YtmkbahmjickoiaaChecked
import GoSem.Claim
import GoSem.ClaimJoined
import GoSem.ClaimMapViews
import Derived.JoinedTies
import Derived.KernelRfl
namespace Go.Proofs.Ytmkbahmjickoiaa
/- THE CELL 'sum', in the pinned program and in every row, IS THE sha256 OF THE DUMP (.gsa) THAT YtmkbahmjickoiaaProg.lean LOADS. Nothing in Lean hashes anything: it is a label: what it is worth is what the hold of that sum in a sandbox is worth. -/
noncomputable def Try.pinned : Pinned := { name := "ytmkbahmjickoiaa", sum := "454fc1553d29e22869bf3769ca80829233c1efa71fb6e542682a593d98e3ad1e", checked := Try.checked }
namespace Rows
def none {H : Type} : Left H := { results := [], args := [] }

/-- 'platformfwlaw27.DeviceCheckAgrees': WHATEVER THE INPUT: true; the input reads as it did. -/
def deviceCheckAgreesSpec : ChangeSpec := { name := "deviceCheckAgrees", fn := fun _ => fun
  | [d1, d2, d3, d4, d5] => { results := [.lit (.bool true)], args := [d1, d2, d3, d4, d5] }
  | _ => none }
def deviceCheckAgreesRow : OpenClaim := { program := "ytmkbahmjickoiaa", sum := "454fc1553d29e22869bf3769ca80829233c1efa71fb6e542682a593d98e3ad1e", func := "platformfw/platformfwlaw27.DeviceCheckAgrees", spec := "deviceCheckAgrees", apart := false }
def DeviceCheckAgreesSaid : Prop := deviceCheckAgreesRow.holds Try.pinned (OpenSpec.ofChange deviceCheckAgreesSpec)

/-- ITS FALSE NEIGHBOUR: 'it returns false'. Refute it at one input. -/
def deviceCheckAgreesWrong : ChangeSpec := { name := "deviceCheckAgrees", fn := fun _ => fun
  | [d1, d2, d3, d4, d5] => { results := [.lit (.bool false)], args := [d1, d2, d3, d4, d5] }
  | _ => none }
def DeviceCheckAgreesWrongFalsely : Prop := deviceCheckAgreesRow.holds Try.pinned (OpenSpec.ofChange deviceCheckAgreesWrong)

/-- 'platformfwlaw27.DeviceTargetAgrees': WHATEVER THE INPUT: true; the input reads as it did. -/
def deviceTargetAgreesSpec : ChangeSpec := { name := "deviceTargetAgrees", fn := fun _ => fun
  | [d1, d2, d3] => { results := [.lit (.bool true)], args := [d1, d2, d3] }
  | _ => none }
def deviceTargetAgreesRow : OpenClaim := { program := "ytmkbahmjickoiaa", sum := "454fc1553d29e22869bf3769ca80829233c1efa71fb6e542682a593d98e3ad1e", func := "platformfw/platformfwlaw27.DeviceTargetAgrees", spec := "deviceTargetAgrees", apart := false }
def DeviceTargetAgreesSaid : Prop := deviceTargetAgreesRow.holds Try.pinned (OpenSpec.ofChange deviceTargetAgreesSpec)

/-- ITS FALSE NEIGHBOUR: 'it returns false'. Refute it at one input. -/
def deviceTargetAgreesWrong : ChangeSpec := { name := "deviceTargetAgrees", fn := fun _ => fun
  | [d1, d2, d3] => { results := [.lit (.bool false)], args := [d1, d2, d3] }
  | _ => none }
def DeviceTargetAgreesWrongFalsely : Prop := deviceTargetAgreesRow.holds Try.pinned (OpenSpec.ofChange deviceTargetAgreesWrong)

/-- 'platformfwlaw27.DeviceTargetPermitsWake': WHATEVER THE INPUT: true; the input reads as it did. -/
def deviceTargetPermitsWakeSpec : ChangeSpec := { name := "deviceTargetPermitsWake", fn := fun _ => fun
  | [d1, d2] => { results := [.lit (.bool true)], args := [d1, d2] }
  | _ => none }
def deviceTargetPermitsWakeRow : OpenClaim := { program := "ytmkbahmjickoiaa", sum := "454fc1553d29e22869bf3769ca80829233c1efa71fb6e542682a593d98e3ad1e", func := "platformfw/platformfwlaw27.DeviceTargetPermitsWake", spec := "deviceTargetPermitsWake", apart := false }
def DeviceTargetPermitsWakeSaid : Prop := deviceTargetPermitsWakeRow.holds Try.pinned (OpenSpec.ofChange deviceTargetPermitsWakeSpec)

/-- ITS FALSE NEIGHBOUR: 'it returns false'. Refute it at one input. -/
def deviceTargetPermitsWakeWrong : ChangeSpec := { name := "deviceTargetPermitsWake", fn := fun _ => fun
  | [d1, d2] => { results := [.lit (.bool false)], args := [d1, d2] }
  | _ => none }
def DeviceTargetPermitsWakeWrongFalsely : Prop := deviceTargetPermitsWakeRow.holds Try.pinned (OpenSpec.ofChange deviceTargetPermitsWakeWrong)

/-- 'platformfwlaw27.DeviceChangeAgrees': WHATEVER THE INPUT: true; the input reads as it did. -/
def deviceChangeAgreesSpec : ChangeSpec := { name := "deviceChangeAgrees", fn := fun _ => fun
  | [d1, d2, d3] => { results := [.lit (.bool true)], args := [d1, d2, d3] }
  | _ => none }
def deviceChangeAgreesRow : OpenClaim := { program := "ytmkbahmjickoiaa", sum := "454fc1553d29e22869bf3769ca80829233c1efa71fb6e542682a593d98e3ad1e", func := "platformfw/platformfwlaw27.DeviceChangeAgrees", spec := "deviceChangeAgrees", apart := false }
def DeviceChangeAgreesSaid : Prop := deviceChangeAgreesRow.holds Try.pinned (OpenSpec.ofChange deviceChangeAgreesSpec)

/-- ITS FALSE NEIGHBOUR: 'it returns false'. Refute it at one input. -/
def deviceChangeAgreesWrong : ChangeSpec := { name := "deviceChangeAgrees", fn := fun _ => fun
  | [d1, d2, d3] => { results := [.lit (.bool false)], args := [d1, d2, d3] }
  | _ => none }
def DeviceChangeAgreesWrongFalsely : Prop := deviceChangeAgreesRow.holds Try.pinned (OpenSpec.ofChange deviceChangeAgreesWrong)

/-- 'platformfwlaw27.DeviceChangeIsReversible': WHATEVER THE INPUT: true; the input reads as it did. -/
def deviceChangeIsReversibleSpec : ChangeSpec := { name := "deviceChangeIsReversible", fn := fun _ => fun
  | [d1, d2, d3] => { results := [.lit (.bool true)], args := [d1, d2, d3] }
  | _ => none }
def deviceChangeIsReversibleRow : OpenClaim := { program := "ytmkbahmjickoiaa", sum := "454fc1553d29e22869bf3769ca80829233c1efa71fb6e542682a593d98e3ad1e", func := "platformfw/platformfwlaw27.DeviceChangeIsReversible", spec := "deviceChangeIsReversible", apart := false }
def DeviceChangeIsReversibleSaid : Prop := deviceChangeIsReversibleRow.holds Try.pinned (OpenSpec.ofChange deviceChangeIsReversibleSpec)

/-- ITS FALSE NEIGHBOUR: 'it returns false'. Refute it at one input. -/
def deviceChangeIsReversibleWrong : ChangeSpec := { name := "deviceChangeIsReversible", fn := fun _ => fun
  | [d1, d2, d3] => { results := [.lit (.bool false)], args := [d1, d2, d3] }
  | _ => none }
def DeviceChangeIsReversibleWrongFalsely : Prop := deviceChangeIsReversibleRow.holds Try.pinned (OpenSpec.ofChange deviceChangeIsReversibleWrong)

/- THE SECOND FORM. 'bulk': how many values and letters a reading holds, each counted each time it is reached (what is shared counts as often as it is met; a slice's spare places count too). A statement '..UptoSaid' is the law's where the arguments, and the package variables that the reading takes, are together of bulk at most 1048576: NARROWER than '..Said'. Prove '..Said' where nothing that the law and all that it calls make is longer than what came in: it says more and counts as full. Else prove '..UptoSaid'. A law counts once. -/
mutual
def uptoBulk {H : Type} : DataW H → Nat
  | .lit (.string bytes) => bytes.length + 1
  | .lit _ => 1
  | .nil => 1
  | .ptr d => uptoBulk d + 1
  | .slice elems spare => uptoBulkAll elems + uptoBulkAll spare + 1
  | .agg parts => uptoBulkAll parts + 1
  | .iface _ d => uptoBulk d + 1
  | .map entries => uptoBulkEntries entries + 1
  | .held _ => 1
def uptoBulkAll {H : Type} : List (DataW H) → Nat
  | [] => 0
  | d :: r => uptoBulk d + uptoBulkAll r
def uptoBulkEntries {H : Type} : List (Lit × DataW H) → Nat
  | [] => 0
  | x :: r => uptoBulkEntry x + uptoBulkEntries r
def uptoBulkEntry {H : Type} : Lit × DataW H → Nat
  | (.string bytes, d) => bytes.length + uptoBulk d + 1
  | (_, d) => uptoBulk d + 1
 end
def uptoSmall : (H : Type) → List (DataW H) → Bool := fun _ ds => decide (uptoBulkAll ds ≤ 1048576)
def OpenSpec.upto (s : _root_.Go.ChangeSpec) : _root_.Go.OpenSpec := { _root_.Go.OpenSpec.ofChange s with cond := some uptoSmall }

/-- 'platformfwlaw27.DeviceCheckAgrees', WHERE WHAT IT READS IS OF BULK AT MOST 1048576: true; the input reads as it did. -/
def deviceCheckAgreesUptoRow : OpenClaim := { program := "ytmkbahmjickoiaa", sum := "454fc1553d29e22869bf3769ca80829233c1efa71fb6e542682a593d98e3ad1e", func := "platformfw/platformfwlaw27.DeviceCheckAgrees", spec := "deviceCheckAgrees", apart := false, narrowed := true }
def DeviceCheckAgreesUptoSaid : Prop := deviceCheckAgreesUptoRow.holds Try.pinned (OpenSpec.upto deviceCheckAgreesSpec)

/-- 'platformfwlaw27.DeviceTargetAgrees', WHERE WHAT IT READS IS OF BULK AT MOST 1048576: true; the input reads as it did. -/
def deviceTargetAgreesUptoRow : OpenClaim := { program := "ytmkbahmjickoiaa", sum := "454fc1553d29e22869bf3769ca80829233c1efa71fb6e542682a593d98e3ad1e", func := "platformfw/platformfwlaw27.DeviceTargetAgrees", spec := "deviceTargetAgrees", apart := false, narrowed := true }
def DeviceTargetAgreesUptoSaid : Prop := deviceTargetAgreesUptoRow.holds Try.pinned (OpenSpec.upto deviceTargetAgreesSpec)

/-- 'platformfwlaw27.DeviceTargetPermitsWake', WHERE WHAT IT READS IS OF BULK AT MOST 1048576: true; the input reads as it did. -/
def deviceTargetPermitsWakeUptoRow : OpenClaim := { program := "ytmkbahmjickoiaa", sum := "454fc1553d29e22869bf3769ca80829233c1efa71fb6e542682a593d98e3ad1e", func := "platformfw/platformfwlaw27.DeviceTargetPermitsWake", spec := "deviceTargetPermitsWake", apart := false, narrowed := true }
def DeviceTargetPermitsWakeUptoSaid : Prop := deviceTargetPermitsWakeUptoRow.holds Try.pinned (OpenSpec.upto deviceTargetPermitsWakeSpec)

/-- 'platformfwlaw27.DeviceChangeAgrees', WHERE WHAT IT READS IS OF BULK AT MOST 1048576: true; the input reads as it did. -/
def deviceChangeAgreesUptoRow : OpenClaim := { program := "ytmkbahmjickoiaa", sum := "454fc1553d29e22869bf3769ca80829233c1efa71fb6e542682a593d98e3ad1e", func := "platformfw/platformfwlaw27.DeviceChangeAgrees", spec := "deviceChangeAgrees", apart := false, narrowed := true }
def DeviceChangeAgreesUptoSaid : Prop := deviceChangeAgreesUptoRow.holds Try.pinned (OpenSpec.upto deviceChangeAgreesSpec)

/-- 'platformfwlaw27.DeviceChangeIsReversible', WHERE WHAT IT READS IS OF BULK AT MOST 1048576: true; the input reads as it did. -/
def deviceChangeIsReversibleUptoRow : OpenClaim := { program := "ytmkbahmjickoiaa", sum := "454fc1553d29e22869bf3769ca80829233c1efa71fb6e542682a593d98e3ad1e", func := "platformfw/platformfwlaw27.DeviceChangeIsReversible", spec := "deviceChangeIsReversible", apart := false, narrowed := true }
def DeviceChangeIsReversibleUptoSaid : Prop := deviceChangeIsReversibleUptoRow.holds Try.pinned (OpenSpec.upto deviceChangeIsReversibleSpec)

end Rows
end Go.Proofs.Ytmkbahmjickoiaa
