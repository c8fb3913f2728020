/-
  No cell of these rows narrows 'for every input' (looked for: loops, veiled, ifaces, maps, wideKeys, modest, calm, conditions, laid).
  DERIVED. THE GIVEN ROWS OF THIS SEAT. 12 by the template 'for every input the law returns true; each argument reads behind the call as it read before'; 0 by the template 'total and deterministic' (their statements: YtnfhiadhpbojkaaTotals.lean).
  GIVEN WITH THE SEED: the statements are not yours to turn. If you find one false, say at which input.
  Laid BY PROGRAM, IN A SANDBOX (cutbox-rows.mjs): the forced cells as the released guide's own fill.sh prints them over the translation 4940cf0b6796c377… (all of the seat's roots in one cut). By AI agents, Wed Nov 11 2026. No macro, syntax, notation, axiom, sorry.
-/
import Derived.Test.YtnfhiadhpbojkaaChecked
import GoSem.Claim
import GoSem.ClaimJoined
import GoSem.ClaimMapViews
import Derived.JoinedTies
import Derived.KernelRfl
namespace Go.Proofs.Ytnfhiadhpbojkaa
/- THE CELL 'sum', in the pinned program and in every row, IS THE sha256 OF THE DUMP (.gsa) THAT YtnfhiadhpbojkaaProg.lean LOADS. Nothing in Lean hashes anything: it is a label: what it is worth is what the hold of that sum in a sandbox is worth. -/
noncomputable def Try.pinned : Pinned := { name := "ytnfhiadhpbojkaa", sum := "4940cf0b6796c3776698b6fd035b3fd35a87a7892950d38a747e94de9ac0494c", checked := Try.checked }
namespace Rows
def none {H : Type} : Left H := { results := [], args := [] }

/-- 'platformfwlaw24.DepgraphOrderAgrees': WHATEVER THE INPUT: true; the input reads as it did. -/
def depgraphOrderAgreesSpec : ChangeSpec := { name := "depgraphOrderAgrees", fn := fun _ => fun
  | [d1, d2, d3] => { results := [.lit (.bool true)], args := [d1, d2, d3] }
  | _ => none }
def depgraphOrderAgreesRow : OpenClaim := { program := "ytnfhiadhpbojkaa", sum := "4940cf0b6796c3776698b6fd035b3fd35a87a7892950d38a747e94de9ac0494c", func := "platformfw/platformfwlaw24.DepgraphOrderAgrees", spec := "depgraphOrderAgrees", plainKeys := false, apart := false }
def DepgraphOrderAgreesSaid : Prop := depgraphOrderAgreesRow.holds Try.pinned (OpenSpec.ofChange depgraphOrderAgreesSpec)

/-- ITS FALSE NEIGHBOUR: 'it returns false'. Refute it at one input. -/
def depgraphOrderAgreesWrong : ChangeSpec := { name := "depgraphOrderAgrees", fn := fun _ => fun
  | [d1, d2, d3] => { results := [.lit (.bool false)], args := [d1, d2, d3] }
  | _ => none }
def DepgraphOrderAgreesWrongFalsely : Prop := depgraphOrderAgreesRow.holds Try.pinned (OpenSpec.ofChange depgraphOrderAgreesWrong)

/-- 'platformfwlaw24.DepgraphOrderIsTopological': WHATEVER THE INPUT: true; the input reads as it did. -/
def depgraphOrderIsTopologicalSpec : ChangeSpec := { name := "depgraphOrderIsTopological", fn := fun _ => fun
  | [d1, d2] => { results := [.lit (.bool true)], args := [d1, d2] }
  | _ => none }
def depgraphOrderIsTopologicalRow : OpenClaim := { program := "ytnfhiadhpbojkaa", sum := "4940cf0b6796c3776698b6fd035b3fd35a87a7892950d38a747e94de9ac0494c", func := "platformfw/platformfwlaw24.DepgraphOrderIsTopological", spec := "depgraphOrderIsTopological", plainKeys := false, apart := false }
def DepgraphOrderIsTopologicalSaid : Prop := depgraphOrderIsTopologicalRow.holds Try.pinned (OpenSpec.ofChange depgraphOrderIsTopologicalSpec)

/-- ITS FALSE NEIGHBOUR: 'it returns false'. Refute it at one input. -/
def depgraphOrderIsTopologicalWrong : ChangeSpec := { name := "depgraphOrderIsTopological", fn := fun _ => fun
  | [d1, d2] => { results := [.lit (.bool false)], args := [d1, d2] }
  | _ => none }
def DepgraphOrderIsTopologicalWrongFalsely : Prop := depgraphOrderIsTopologicalRow.holds Try.pinned (OpenSpec.ofChange depgraphOrderIsTopologicalWrong)

/-- 'platformfwlaw24.DepgraphCycleAgrees': WHATEVER THE INPUT: true; the input reads as it did. -/
def depgraphCycleAgreesSpec : ChangeSpec := { name := "depgraphCycleAgrees", fn := fun _ => fun
  | [d1, d2] => { results := [.lit (.bool true)], args := [d1, d2] }
  | _ => none }
def depgraphCycleAgreesRow : OpenClaim := { program := "ytnfhiadhpbojkaa", sum := "4940cf0b6796c3776698b6fd035b3fd35a87a7892950d38a747e94de9ac0494c", func := "platformfw/platformfwlaw24.DepgraphCycleAgrees", spec := "depgraphCycleAgrees", plainKeys := false, apart := false }
def DepgraphCycleAgreesSaid : Prop := depgraphCycleAgreesRow.holds Try.pinned (OpenSpec.ofChange depgraphCycleAgreesSpec)

/-- ITS FALSE NEIGHBOUR: 'it returns false'. Refute it at one input. -/
def depgraphCycleAgreesWrong : ChangeSpec := { name := "depgraphCycleAgrees", fn := fun _ => fun
  | [d1, d2] => { results := [.lit (.bool false)], args := [d1, d2] }
  | _ => none }
def DepgraphCycleAgreesWrongFalsely : Prop := depgraphCycleAgreesRow.holds Try.pinned (OpenSpec.ofChange depgraphCycleAgreesWrong)

/-- 'platformfwlaw24.DepgraphOrderOrCycle': WHATEVER THE INPUT: true; the input reads as it did. -/
def depgraphOrderOrCycleSpec : ChangeSpec := { name := "depgraphOrderOrCycle", fn := fun _ => fun
  | [d1, d2] => { results := [.lit (.bool true)], args := [d1, d2] }
  | _ => none }
def depgraphOrderOrCycleRow : OpenClaim := { program := "ytnfhiadhpbojkaa", sum := "4940cf0b6796c3776698b6fd035b3fd35a87a7892950d38a747e94de9ac0494c", func := "platformfw/platformfwlaw24.DepgraphOrderOrCycle", spec := "depgraphOrderOrCycle", plainKeys := false, apart := false }
def DepgraphOrderOrCycleSaid : Prop := depgraphOrderOrCycleRow.holds Try.pinned (OpenSpec.ofChange depgraphOrderOrCycleSpec)

/-- ITS FALSE NEIGHBOUR: 'it returns false'. Refute it at one input. -/
def depgraphOrderOrCycleWrong : ChangeSpec := { name := "depgraphOrderOrCycle", fn := fun _ => fun
  | [d1, d2] => { results := [.lit (.bool false)], args := [d1, d2] }
  | _ => none }
def DepgraphOrderOrCycleWrongFalsely : Prop := depgraphOrderOrCycleRow.holds Try.pinned (OpenSpec.ofChange depgraphOrderOrCycleWrong)

/-- 'platformfwlaw24.DepgraphLevelsAgree': WHATEVER THE INPUT: true; the input reads as it did. -/
def depgraphLevelsAgreeSpec : ChangeSpec := { name := "depgraphLevelsAgree", fn := fun _ => fun
  | [d1, d2, d3] => { results := [.lit (.bool true)], args := [d1, d2, d3] }
  | _ => none }
def depgraphLevelsAgreeRow : OpenClaim := { program := "ytnfhiadhpbojkaa", sum := "4940cf0b6796c3776698b6fd035b3fd35a87a7892950d38a747e94de9ac0494c", func := "platformfw/platformfwlaw24.DepgraphLevelsAgree", spec := "depgraphLevelsAgree", plainKeys := false, apart := false }
def DepgraphLevelsAgreeSaid : Prop := depgraphLevelsAgreeRow.holds Try.pinned (OpenSpec.ofChange depgraphLevelsAgreeSpec)

/-- ITS FALSE NEIGHBOUR: 'it returns false'. Refute it at one input. -/
def depgraphLevelsAgreeWrong : ChangeSpec := { name := "depgraphLevelsAgree", fn := fun _ => fun
  | [d1, d2, d3] => { results := [.lit (.bool false)], args := [d1, d2, d3] }
  | _ => none }
def DepgraphLevelsAgreeWrongFalsely : Prop := depgraphLevelsAgreeRow.holds Try.pinned (OpenSpec.ofChange depgraphLevelsAgreeWrong)

/-- 'platformfwlaw24.DepgraphCheckAgrees': WHATEVER THE INPUT: true; the input reads as it did. -/
def depgraphCheckAgreesSpec : ChangeSpec := { name := "depgraphCheckAgrees", fn := fun _ => fun
  | [d1, d2] => { results := [.lit (.bool true)], args := [d1, d2] }
  | _ => none }
def depgraphCheckAgreesRow : OpenClaim := { program := "ytnfhiadhpbojkaa", sum := "4940cf0b6796c3776698b6fd035b3fd35a87a7892950d38a747e94de9ac0494c", func := "platformfw/platformfwlaw24.DepgraphCheckAgrees", spec := "depgraphCheckAgrees", plainKeys := false, apart := false }
def DepgraphCheckAgreesSaid : Prop := depgraphCheckAgreesRow.holds Try.pinned (OpenSpec.ofChange depgraphCheckAgreesSpec)

/-- ITS FALSE NEIGHBOUR: 'it returns false'. Refute it at one input. -/
def depgraphCheckAgreesWrong : ChangeSpec := { name := "depgraphCheckAgrees", fn := fun _ => fun
  | [d1, d2] => { results := [.lit (.bool false)], args := [d1, d2] }
  | _ => none }
def DepgraphCheckAgreesWrongFalsely : Prop := depgraphCheckAgreesRow.holds Try.pinned (OpenSpec.ofChange depgraphCheckAgreesWrong)

/-- 'platformfwlaw24.DepgraphCheckLimits': WHATEVER THE INPUT: true; the input reads as it did. -/
def depgraphCheckLimitsSpec : ChangeSpec := { name := "depgraphCheckLimits", fn := fun _ => fun
  | [d] => { results := [.lit (.bool true)], args := [d] }
  | _ => none }
def depgraphCheckLimitsRow : OpenClaim := { program := "ytnfhiadhpbojkaa", sum := "4940cf0b6796c3776698b6fd035b3fd35a87a7892950d38a747e94de9ac0494c", func := "platformfw/platformfwlaw24.DepgraphCheckLimits", spec := "depgraphCheckLimits", plainKeys := false, apart := false }
def DepgraphCheckLimitsSaid : Prop := depgraphCheckLimitsRow.holds Try.pinned (OpenSpec.ofChange depgraphCheckLimitsSpec)

/-- ITS FALSE NEIGHBOUR: 'it returns false'. Refute it at one input. -/
def depgraphCheckLimitsWrong : ChangeSpec := { name := "depgraphCheckLimits", fn := fun _ => fun
  | [d] => { results := [.lit (.bool false)], args := [d] }
  | _ => none }
def DepgraphCheckLimitsWrongFalsely : Prop := depgraphCheckLimitsRow.holds Try.pinned (OpenSpec.ofChange depgraphCheckLimitsWrong)

/-- 'platformfwlaw24.DepgraphClosuresAgree': WHATEVER THE INPUT: true; the input reads as it did. -/
def depgraphClosuresAgreeSpec : ChangeSpec := { name := "depgraphClosuresAgree", fn := fun _ => fun
  | [d1, d2, d3] => { results := [.lit (.bool true)], args := [d1, d2, d3] }
  | _ => none }
def depgraphClosuresAgreeRow : OpenClaim := { program := "ytnfhiadhpbojkaa", sum := "4940cf0b6796c3776698b6fd035b3fd35a87a7892950d38a747e94de9ac0494c", func := "platformfw/platformfwlaw24.DepgraphClosuresAgree", spec := "depgraphClosuresAgree", unfollowed := true, recurses := true, plainKeys := false, apart := false }
def DepgraphClosuresAgreeSaid : Prop := depgraphClosuresAgreeRow.holds Try.pinned (OpenSpec.ofChange depgraphClosuresAgreeSpec)

/-- ITS FALSE NEIGHBOUR: 'it returns false'. Refute it at one input. -/
def depgraphClosuresAgreeWrong : ChangeSpec := { name := "depgraphClosuresAgree", fn := fun _ => fun
  | [d1, d2, d3] => { results := [.lit (.bool false)], args := [d1, d2, d3] }
  | _ => none }
def DepgraphClosuresAgreeWrongFalsely : Prop := depgraphClosuresAgreeRow.holds Try.pinned (OpenSpec.ofChange depgraphClosuresAgreeWrong)

/-- 'platformfwlaw24.DepgraphClosureDuality': WHATEVER THE INPUT: true; the input reads as it did. -/
def depgraphClosureDualitySpec : ChangeSpec := { name := "depgraphClosureDuality", fn := fun _ => fun
  | [d1, d2, d3, d4] => { results := [.lit (.bool true)], args := [d1, d2, d3, d4] }
  | _ => none }
def depgraphClosureDualityRow : OpenClaim := { program := "ytnfhiadhpbojkaa", sum := "4940cf0b6796c3776698b6fd035b3fd35a87a7892950d38a747e94de9ac0494c", func := "platformfw/platformfwlaw24.DepgraphClosureDuality", spec := "depgraphClosureDuality", unfollowed := true, recurses := true, plainKeys := false, apart := false }
def DepgraphClosureDualitySaid : Prop := depgraphClosureDualityRow.holds Try.pinned (OpenSpec.ofChange depgraphClosureDualitySpec)

/-- ITS FALSE NEIGHBOUR: 'it returns false'. Refute it at one input. -/
def depgraphClosureDualityWrong : ChangeSpec := { name := "depgraphClosureDuality", fn := fun _ => fun
  | [d1, d2, d3, d4] => { results := [.lit (.bool false)], args := [d1, d2, d3, d4] }
  | _ => none }
def DepgraphClosureDualityWrongFalsely : Prop := depgraphClosureDualityRow.holds Try.pinned (OpenSpec.ofChange depgraphClosureDualityWrong)

/-- 'platformfwlaw24.DepgraphReduceAgrees': WHATEVER THE INPUT: true; the input reads as it did. -/
def depgraphReduceAgreesSpec : ChangeSpec := { name := "depgraphReduceAgrees", fn := fun _ => fun
  | [d1, d2, d3] => { results := [.lit (.bool true)], args := [d1, d2, d3] }
  | _ => none }
def depgraphReduceAgreesRow : OpenClaim := { program := "ytnfhiadhpbojkaa", sum := "4940cf0b6796c3776698b6fd035b3fd35a87a7892950d38a747e94de9ac0494c", func := "platformfw/platformfwlaw24.DepgraphReduceAgrees", spec := "depgraphReduceAgrees", unfollowed := true, recurses := true, plainKeys := false, apart := false }
def DepgraphReduceAgreesSaid : Prop := depgraphReduceAgreesRow.holds Try.pinned (OpenSpec.ofChange depgraphReduceAgreesSpec)

/-- ITS FALSE NEIGHBOUR: 'it returns false'. Refute it at one input. -/
def depgraphReduceAgreesWrong : ChangeSpec := { name := "depgraphReduceAgrees", fn := fun _ => fun
  | [d1, d2, d3] => { results := [.lit (.bool false)], args := [d1, d2, d3] }
  | _ => none }
def DepgraphReduceAgreesWrongFalsely : Prop := depgraphReduceAgreesRow.holds Try.pinned (OpenSpec.ofChange depgraphReduceAgreesWrong)

/-- 'platformfwlaw24.DepgraphReduceIsMinimal': WHATEVER THE INPUT: true; the input reads as it did. -/
def depgraphReduceIsMinimalSpec : ChangeSpec := { name := "depgraphReduceIsMinimal", fn := fun _ => fun
  | [d1, d2, d3, d4] => { results := [.lit (.bool true)], args := [d1, d2, d3, d4] }
  | _ => none }
def depgraphReduceIsMinimalRow : OpenClaim := { program := "ytnfhiadhpbojkaa", sum := "4940cf0b6796c3776698b6fd035b3fd35a87a7892950d38a747e94de9ac0494c", func := "platformfw/platformfwlaw24.DepgraphReduceIsMinimal", spec := "depgraphReduceIsMinimal", unfollowed := true, recurses := true, plainKeys := false, apart := false }
def DepgraphReduceIsMinimalSaid : Prop := depgraphReduceIsMinimalRow.holds Try.pinned (OpenSpec.ofChange depgraphReduceIsMinimalSpec)

/-- ITS FALSE NEIGHBOUR: 'it returns false'. Refute it at one input. -/
def depgraphReduceIsMinimalWrong : ChangeSpec := { name := "depgraphReduceIsMinimal", fn := fun _ => fun
  | [d1, d2, d3, d4] => { results := [.lit (.bool false)], args := [d1, d2, d3, d4] }
  | _ => none }
def DepgraphReduceIsMinimalWrongFalsely : Prop := depgraphReduceIsMinimalRow.holds Try.pinned (OpenSpec.ofChange depgraphReduceIsMinimalWrong)

/-- 'platformfwlaw24.DepgraphReversal': WHATEVER THE INPUT: true; the input reads as it did. -/
def depgraphReversalSpec : ChangeSpec := { name := "depgraphReversal", fn := fun _ => fun
  | [d1, d2, d3, d4] => { results := [.lit (.bool true)], args := [d1, d2, d3, d4] }
  | _ => none }
def depgraphReversalRow : OpenClaim := { program := "ytnfhiadhpbojkaa", sum := "4940cf0b6796c3776698b6fd035b3fd35a87a7892950d38a747e94de9ac0494c", func := "platformfw/platformfwlaw24.DepgraphReversal", spec := "depgraphReversal", unfollowed := true, recurses := true, plainKeys := false, apart := false }
def DepgraphReversalSaid : Prop := depgraphReversalRow.holds Try.pinned (OpenSpec.ofChange depgraphReversalSpec)

/-- ITS FALSE NEIGHBOUR: 'it returns false'. Refute it at one input. -/
def depgraphReversalWrong : ChangeSpec := { name := "depgraphReversal", fn := fun _ => fun
  | [d1, d2, d3, d4] => { results := [.lit (.bool false)], args := [d1, d2, d3, d4] }
  | _ => none }
def DepgraphReversalWrongFalsely : Prop := depgraphReversalRow.holds Try.pinned (OpenSpec.ofChange depgraphReversalWrong)

/- THE SECOND FORM. 'bulk': how many values and letters a reading holds, each counted each time it is reached (what is shared counts as often as it is met; a slice's spare places count too). A statement '..UptoSaid' is the law's where the arguments, and the package variables that the reading takes, are together of bulk at most 1048576: NARROWER than '..Said'. Prove '..Said' where nothing that the law and all that it calls make is longer than what came in: it says more and counts as full. Else prove '..UptoSaid'. A law counts once. -/
mutual
def uptoBulk {H : Type} : DataW H → Nat
  | .lit (.string bytes) => bytes.length + 1
  | .lit _ => 1
  | .nil => 1
  | .ptr d => uptoBulk d + 1
  | .slice elems spare => uptoBulkAll elems + uptoBulkAll spare + 1
  | .agg parts => uptoBulkAll parts + 1
  | .iface _ d => uptoBulk d + 1
  | .map entries => uptoBulkEntries entries + 1
  | .held _ => 1
def uptoBulkAll {H : Type} : List (DataW H) → Nat
  | [] => 0
  | d :: r => uptoBulk d + uptoBulkAll r
def uptoBulkEntries {H : Type} : List (Lit × DataW H) → Nat
  | [] => 0
  | x :: r => uptoBulkEntry x + uptoBulkEntries r
def uptoBulkEntry {H : Type} : Lit × DataW H → Nat
  | (.string bytes, d) => bytes.length + uptoBulk d + 1
  | (_, d) => uptoBulk d + 1
 end
def uptoSmall : (H : Type) → List (DataW H) → Bool := fun _ ds => decide (uptoBulkAll ds ≤ 1048576)
def OpenSpec.upto (s : _root_.Go.ChangeSpec) : _root_.Go.OpenSpec := { _root_.Go.OpenSpec.ofChange s with cond := some uptoSmall }

/-- 'platformfwlaw24.DepgraphOrderAgrees', WHERE WHAT IT READS IS OF BULK AT MOST 1048576: true; the input reads as it did. -/
def depgraphOrderAgreesUptoRow : OpenClaim := { program := "ytnfhiadhpbojkaa", sum := "4940cf0b6796c3776698b6fd035b3fd35a87a7892950d38a747e94de9ac0494c", func := "platformfw/platformfwlaw24.DepgraphOrderAgrees", spec := "depgraphOrderAgrees", plainKeys := false, apart := false, narrowed := true }
def DepgraphOrderAgreesUptoSaid : Prop := depgraphOrderAgreesUptoRow.holds Try.pinned (OpenSpec.upto depgraphOrderAgreesSpec)

/-- 'platformfwlaw24.DepgraphOrderIsTopological', WHERE WHAT IT READS IS OF BULK AT MOST 1048576: true; the input reads as it did. -/
def depgraphOrderIsTopologicalUptoRow : OpenClaim := { program := "ytnfhiadhpbojkaa", sum := "4940cf0b6796c3776698b6fd035b3fd35a87a7892950d38a747e94de9ac0494c", func := "platformfw/platformfwlaw24.DepgraphOrderIsTopological", spec := "depgraphOrderIsTopological", plainKeys := false, apart := false, narrowed := true }
def DepgraphOrderIsTopologicalUptoSaid : Prop := depgraphOrderIsTopologicalUptoRow.holds Try.pinned (OpenSpec.upto depgraphOrderIsTopologicalSpec)

/-- 'platformfwlaw24.DepgraphCycleAgrees', WHERE WHAT IT READS IS OF BULK AT MOST 1048576: true; the input reads as it did. -/
def depgraphCycleAgreesUptoRow : OpenClaim := { program := "ytnfhiadhpbojkaa", sum := "4940cf0b6796c3776698b6fd035b3fd35a87a7892950d38a747e94de9ac0494c", func := "platformfw/platformfwlaw24.DepgraphCycleAgrees", spec := "depgraphCycleAgrees", plainKeys := false, apart := false, narrowed := true }
def DepgraphCycleAgreesUptoSaid : Prop := depgraphCycleAgreesUptoRow.holds Try.pinned (OpenSpec.upto depgraphCycleAgreesSpec)

/-- 'platformfwlaw24.DepgraphOrderOrCycle', WHERE WHAT IT READS IS OF BULK AT MOST 1048576: true; the input reads as it did. -/
def depgraphOrderOrCycleUptoRow : OpenClaim := { program := "ytnfhiadhpbojkaa", sum := "4940cf0b6796c3776698b6fd035b3fd35a87a7892950d38a747e94de9ac0494c", func := "platformfw/platformfwlaw24.DepgraphOrderOrCycle", spec := "depgraphOrderOrCycle", plainKeys := false, apart := false, narrowed := true }
def DepgraphOrderOrCycleUptoSaid : Prop := depgraphOrderOrCycleUptoRow.holds Try.pinned (OpenSpec.upto depgraphOrderOrCycleSpec)

/-- 'platformfwlaw24.DepgraphLevelsAgree', WHERE WHAT IT READS IS OF BULK AT MOST 1048576: true; the input reads as it did. -/
def depgraphLevelsAgreeUptoRow : OpenClaim := { program := "ytnfhiadhpbojkaa", sum := "4940cf0b6796c3776698b6fd035b3fd35a87a7892950d38a747e94de9ac0494c", func := "platformfw/platformfwlaw24.DepgraphLevelsAgree", spec := "depgraphLevelsAgree", plainKeys := false, apart := false, narrowed := true }
def DepgraphLevelsAgreeUptoSaid : Prop := depgraphLevelsAgreeUptoRow.holds Try.pinned (OpenSpec.upto depgraphLevelsAgreeSpec)

/-- 'platformfwlaw24.DepgraphCheckAgrees', WHERE WHAT IT READS IS OF BULK AT MOST 1048576: true; the input reads as it did. -/
def depgraphCheckAgreesUptoRow : OpenClaim := { program := "ytnfhiadhpbojkaa", sum := "4940cf0b6796c3776698b6fd035b3fd35a87a7892950d38a747e94de9ac0494c", func := "platformfw/platformfwlaw24.DepgraphCheckAgrees", spec := "depgraphCheckAgrees", plainKeys := false, apart := false, narrowed := true }
def DepgraphCheckAgreesUptoSaid : Prop := depgraphCheckAgreesUptoRow.holds Try.pinned (OpenSpec.upto depgraphCheckAgreesSpec)

/-- 'platformfwlaw24.DepgraphCheckLimits', WHERE WHAT IT READS IS OF BULK AT MOST 1048576: true; the input reads as it did. -/
def depgraphCheckLimitsUptoRow : OpenClaim := { program := "ytnfhiadhpbojkaa", sum := "4940cf0b6796c3776698b6fd035b3fd35a87a7892950d38a747e94de9ac0494c", func := "platformfw/platformfwlaw24.DepgraphCheckLimits", spec := "depgraphCheckLimits", plainKeys := false, apart := false, narrowed := true }
def DepgraphCheckLimitsUptoSaid : Prop := depgraphCheckLimitsUptoRow.holds Try.pinned (OpenSpec.upto depgraphCheckLimitsSpec)

/-- 'platformfwlaw24.DepgraphClosuresAgree', WHERE WHAT IT READS IS OF BULK AT MOST 1048576: true; the input reads as it did. -/
def depgraphClosuresAgreeUptoRow : OpenClaim := { program := "ytnfhiadhpbojkaa", sum := "4940cf0b6796c3776698b6fd035b3fd35a87a7892950d38a747e94de9ac0494c", func := "platformfw/platformfwlaw24.DepgraphClosuresAgree", spec := "depgraphClosuresAgree", unfollowed := true, recurses := true, plainKeys := false, apart := false, narrowed := true }
def DepgraphClosuresAgreeUptoSaid : Prop := depgraphClosuresAgreeUptoRow.holds Try.pinned (OpenSpec.upto depgraphClosuresAgreeSpec)

/-- 'platformfwlaw24.DepgraphClosureDuality', WHERE WHAT IT READS IS OF BULK AT MOST 1048576: true; the input reads as it did. -/
def depgraphClosureDualityUptoRow : OpenClaim := { program := "ytnfhiadhpbojkaa", sum := "4940cf0b6796c3776698b6fd035b3fd35a87a7892950d38a747e94de9ac0494c", func := "platformfw/platformfwlaw24.DepgraphClosureDuality", spec := "depgraphClosureDuality", unfollowed := true, recurses := true, plainKeys := false, apart := false, narrowed := true }
def DepgraphClosureDualityUptoSaid : Prop := depgraphClosureDualityUptoRow.holds Try.pinned (OpenSpec.upto depgraphClosureDualitySpec)

/-- 'platformfwlaw24.DepgraphReduceAgrees', WHERE WHAT IT READS IS OF BULK AT MOST 1048576: true; the input reads as it did. -/
def depgraphReduceAgreesUptoRow : OpenClaim := { program := "ytnfhiadhpbojkaa", sum := "4940cf0b6796c3776698b6fd035b3fd35a87a7892950d38a747e94de9ac0494c", func := "platformfw/platformfwlaw24.DepgraphReduceAgrees", spec := "depgraphReduceAgrees", unfollowed := true, recurses := true, plainKeys := false, apart := false, narrowed := true }
def DepgraphReduceAgreesUptoSaid : Prop := depgraphReduceAgreesUptoRow.holds Try.pinned (OpenSpec.upto depgraphReduceAgreesSpec)

/-- 'platformfwlaw24.DepgraphReduceIsMinimal', WHERE WHAT IT READS IS OF BULK AT MOST 1048576: true; the input reads as it did. -/
def depgraphReduceIsMinimalUptoRow : OpenClaim := { program := "ytnfhiadhpbojkaa", sum := "4940cf0b6796c3776698b6fd035b3fd35a87a7892950d38a747e94de9ac0494c", func := "platformfw/platformfwlaw24.DepgraphReduceIsMinimal", spec := "depgraphReduceIsMinimal", unfollowed := true, recurses := true, plainKeys := false, apart := false, narrowed := true }
def DepgraphReduceIsMinimalUptoSaid : Prop := depgraphReduceIsMinimalUptoRow.holds Try.pinned (OpenSpec.upto depgraphReduceIsMinimalSpec)

/-- 'platformfwlaw24.DepgraphReversal', WHERE WHAT IT READS IS OF BULK AT MOST 1048576: true; the input reads as it did. -/
def depgraphReversalUptoRow : OpenClaim := { program := "ytnfhiadhpbojkaa", sum := "4940cf0b6796c3776698b6fd035b3fd35a87a7892950d38a747e94de9ac0494c", func := "platformfw/platformfwlaw24.DepgraphReversal", spec := "depgraphReversal", unfollowed := true, recurses := true, plainKeys := false, apart := false, narrowed := true }
def DepgraphReversalUptoSaid : Prop := depgraphReversalUptoRow.holds Try.pinned (OpenSpec.upto depgraphReversalSpec)

end Rows
end Go.Proofs.Ytnfhiadhpbojkaa
