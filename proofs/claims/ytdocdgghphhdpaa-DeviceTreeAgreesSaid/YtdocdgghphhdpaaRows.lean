/-
  No cell of these rows narrows 'for every input' (looked for: loops, veiled, ifaces, maps, wideKeys, modest, calm, conditions, laid).
  DERIVED. THE GIVEN ROWS OF THIS SEAT. 11 by the template 'for every input the law returns true; each argument reads behind the call as it read before'; 0 by the template 'total and deterministic' (their statements: YtdocdgghphhdpaaTotals.lean).
  GIVEN WITH THE SEED: the statements are not yours to turn. If you find one false, say at which input.
  Laid BY PROGRAM, IN A SANDBOX (cutbox-rows.mjs): the forced cells as the released guide's own fill.sh prints them over the translation 06c32055ba98e138… (all of the seat's roots in one cut). By AI agents, Wed Nov 11 2026. No macro, syntax, notation, axiom, sorry.
-/
import Derived.Test.YtdocdgghphhdpaaChecked
import GoSem.Claim
import GoSem.ClaimJoined
import GoSem.ClaimMapViews
import Derived.JoinedTies
import Derived.KernelRfl
namespace Go.Proofs.Ytdocdgghphhdpaa
/- THE CELL 'sum', in the pinned program and in every row, IS THE sha256 OF THE DUMP (.gsa) THAT YtdocdgghphhdpaaProg.lean LOADS. Nothing in Lean hashes anything: it is a label: what it is worth is what the hold of that sum in a sandbox is worth. -/
noncomputable def Try.pinned : Pinned := { name := "ytdocdgghphhdpaa", sum := "06c32055ba98e138a3ddef88ba5512187026d2e0cc12e38326edb8d75f982f0c", checked := Try.checked }
namespace Rows
def none {H : Type} : Left H := { results := [], args := [] }

/-- 'platformfwlaw27.DeviceHierarchy': WHATEVER THE INPUT: true; the input reads as it did. -/
def deviceHierarchySpec : ChangeSpec := { name := "deviceHierarchy", fn := fun _ => fun
  | [d1, d2, d3] => { results := [.lit (.bool true)], args := [d1, d2, d3] }
  | _ => none }
def deviceHierarchyRow : OpenClaim := { program := "ytdocdgghphhdpaa", sum := "06c32055ba98e138a3ddef88ba5512187026d2e0cc12e38326edb8d75f982f0c", func := "platformfw/platformfwlaw27.DeviceHierarchy", spec := "deviceHierarchy", recurses := true, plainKeys := false, apart := false }
def DeviceHierarchySaid : Prop := deviceHierarchyRow.holds Try.pinned (OpenSpec.ofChange deviceHierarchySpec)

/-- ITS FALSE NEIGHBOUR: 'it returns false'. Refute it at one input. -/
def deviceHierarchyWrong : ChangeSpec := { name := "deviceHierarchy", fn := fun _ => fun
  | [d1, d2, d3] => { results := [.lit (.bool false)], args := [d1, d2, d3] }
  | _ => none }
def DeviceHierarchyWrongFalsely : Prop := deviceHierarchyRow.holds Try.pinned (OpenSpec.ofChange deviceHierarchyWrong)

/-- 'platformfwlaw27.DeviceRailsMatchStates': WHATEVER THE INPUT: true; the input reads as it did. -/
def deviceRailsMatchStatesSpec : ChangeSpec := { name := "deviceRailsMatchStates", fn := fun _ => fun
  | [d1, d2, d3] => { results := [.lit (.bool true)], args := [d1, d2, d3] }
  | _ => none }
def deviceRailsMatchStatesRow : OpenClaim := { program := "ytdocdgghphhdpaa", sum := "06c32055ba98e138a3ddef88ba5512187026d2e0cc12e38326edb8d75f982f0c", func := "platformfw/platformfwlaw27.DeviceRailsMatchStates", spec := "deviceRailsMatchStates", recurses := true, plainKeys := false, apart := false }
def DeviceRailsMatchStatesSaid : Prop := deviceRailsMatchStatesRow.holds Try.pinned (OpenSpec.ofChange deviceRailsMatchStatesSpec)

/-- ITS FALSE NEIGHBOUR: 'it returns false'. Refute it at one input. -/
def deviceRailsMatchStatesWrong : ChangeSpec := { name := "deviceRailsMatchStates", fn := fun _ => fun
  | [d1, d2, d3] => { results := [.lit (.bool false)], args := [d1, d2, d3] }
  | _ => none }
def DeviceRailsMatchStatesWrongFalsely : Prop := deviceRailsMatchStatesRow.holds Try.pinned (OpenSpec.ofChange deviceRailsMatchStatesWrong)

/-- 'platformfwlaw27.DeviceAccessiblePath': WHATEVER THE INPUT: true; the input reads as it did. -/
def deviceAccessiblePathSpec : ChangeSpec := { name := "deviceAccessiblePath", fn := fun _ => fun
  | [d1, d2, d3, d4, d5] => { results := [.lit (.bool true)], args := [d1, d2, d3, d4, d5] }
  | _ => none }
def deviceAccessiblePathRow : OpenClaim := { program := "ytdocdgghphhdpaa", sum := "06c32055ba98e138a3ddef88ba5512187026d2e0cc12e38326edb8d75f982f0c", func := "platformfw/platformfwlaw27.DeviceAccessiblePath", spec := "deviceAccessiblePath", recurses := true, plainKeys := false, apart := false }
def DeviceAccessiblePathSaid : Prop := deviceAccessiblePathRow.holds Try.pinned (OpenSpec.ofChange deviceAccessiblePathSpec)

/-- ITS FALSE NEIGHBOUR: 'it returns false'. Refute it at one input. -/
def deviceAccessiblePathWrong : ChangeSpec := { name := "deviceAccessiblePath", fn := fun _ => fun
  | [d1, d2, d3, d4, d5] => { results := [.lit (.bool false)], args := [d1, d2, d3, d4, d5] }
  | _ => none }
def DeviceAccessiblePathWrongFalsely : Prop := deviceAccessiblePathRow.holds Try.pinned (OpenSpec.ofChange deviceAccessiblePathWrong)

/-- 'platformfwlaw27.DevicePowerUp': WHATEVER THE INPUT: true; the input reads as it did. -/
def devicePowerUpSpec : ChangeSpec := { name := "devicePowerUp", fn := fun _ => fun
  | [d1, d2, d3, d4] => { results := [.lit (.bool true)], args := [d1, d2, d3, d4] }
  | _ => none }
def devicePowerUpRow : OpenClaim := { program := "ytdocdgghphhdpaa", sum := "06c32055ba98e138a3ddef88ba5512187026d2e0cc12e38326edb8d75f982f0c", func := "platformfw/platformfwlaw27.DevicePowerUp", spec := "devicePowerUp", recurses := true, plainKeys := false, apart := false }
def DevicePowerUpSaid : Prop := devicePowerUpRow.holds Try.pinned (OpenSpec.ofChange devicePowerUpSpec)

/-- ITS FALSE NEIGHBOUR: 'it returns false'. Refute it at one input. -/
def devicePowerUpWrong : ChangeSpec := { name := "devicePowerUp", fn := fun _ => fun
  | [d1, d2, d3, d4] => { results := [.lit (.bool false)], args := [d1, d2, d3, d4] }
  | _ => none }
def DevicePowerUpWrongFalsely : Prop := devicePowerUpRow.holds Try.pinned (OpenSpec.ofChange devicePowerUpWrong)

/-- 'platformfwlaw27.DeviceTreeAgrees': WHATEVER THE INPUT: true; the input reads as it did. -/
def deviceTreeAgreesSpec : ChangeSpec := { name := "deviceTreeAgrees", fn := fun _ => fun
  | [d1, d2, d3, d4] => { results := [.lit (.bool true)], args := [d1, d2, d3, d4] }
  | _ => none }
def deviceTreeAgreesRow : OpenClaim := { program := "ytdocdgghphhdpaa", sum := "06c32055ba98e138a3ddef88ba5512187026d2e0cc12e38326edb8d75f982f0c", func := "platformfw/platformfwlaw27.DeviceTreeAgrees", spec := "deviceTreeAgrees", recurses := true, plainKeys := false, apart := false }
def DeviceTreeAgreesSaid : Prop := deviceTreeAgreesRow.holds Try.pinned (OpenSpec.ofChange deviceTreeAgreesSpec)

/-- ITS FALSE NEIGHBOUR: 'it returns false'. Refute it at one input. -/
def deviceTreeAgreesWrong : ChangeSpec := { name := "deviceTreeAgrees", fn := fun _ => fun
  | [d1, d2, d3, d4] => { results := [.lit (.bool false)], args := [d1, d2, d3, d4] }
  | _ => none }
def DeviceTreeAgreesWrongFalsely : Prop := deviceTreeAgreesRow.holds Try.pinned (OpenSpec.ofChange deviceTreeAgreesWrong)

/-- 'platformfwlaw30.SuspendDrivesDevices': WHATEVER THE INPUT: true; the input reads as it did. -/
def suspendDrivesDevicesSpec : ChangeSpec := { name := "suspendDrivesDevices", fn := fun _ => fun
  | [d1, d2] => { results := [.lit (.bool true)], args := [d1, d2] }
  | _ => none }
def suspendDrivesDevicesRow : OpenClaim := { program := "ytdocdgghphhdpaa", sum := "06c32055ba98e138a3ddef88ba5512187026d2e0cc12e38326edb8d75f982f0c", func := "platformfw/platformfwlaw30.SuspendDrivesDevices", spec := "suspendDrivesDevices", recurses := true, plainKeys := false, apart := false }
def SuspendDrivesDevicesSaid : Prop := suspendDrivesDevicesRow.holds Try.pinned (OpenSpec.ofChange suspendDrivesDevicesSpec)

/-- ITS FALSE NEIGHBOUR: 'it returns false'. Refute it at one input. -/
def suspendDrivesDevicesWrong : ChangeSpec := { name := "suspendDrivesDevices", fn := fun _ => fun
  | [d1, d2] => { results := [.lit (.bool false)], args := [d1, d2] }
  | _ => none }
def SuspendDrivesDevicesWrongFalsely : Prop := suspendDrivesDevicesRow.holds Try.pinned (OpenSpec.ofChange suspendDrivesDevicesWrong)

/-- 'platformfwlaw30.SuspendFailureRestoresDevices': WHATEVER THE INPUT: true; the input reads as it did. -/
def suspendFailureRestoresDevicesSpec : ChangeSpec := { name := "suspendFailureRestoresDevices", fn := fun _ => fun
  | [d1, d2, d3, d4] => { results := [.lit (.bool true)], args := [d1, d2, d3, d4] }
  | _ => none }
def suspendFailureRestoresDevicesRow : OpenClaim := { program := "ytdocdgghphhdpaa", sum := "06c32055ba98e138a3ddef88ba5512187026d2e0cc12e38326edb8d75f982f0c", func := "platformfw/platformfwlaw30.SuspendFailureRestoresDevices", spec := "suspendFailureRestoresDevices", recurses := true, plainKeys := false, apart := false }
def SuspendFailureRestoresDevicesSaid : Prop := suspendFailureRestoresDevicesRow.holds Try.pinned (OpenSpec.ofChange suspendFailureRestoresDevicesSpec)

/-- ITS FALSE NEIGHBOUR: 'it returns false'. Refute it at one input. -/
def suspendFailureRestoresDevicesWrong : ChangeSpec := { name := "suspendFailureRestoresDevices", fn := fun _ => fun
  | [d1, d2, d3, d4] => { results := [.lit (.bool false)], args := [d1, d2, d3, d4] }
  | _ => none }
def SuspendFailureRestoresDevicesWrongFalsely : Prop := suspendFailureRestoresDevicesRow.holds Try.pinned (OpenSpec.ofChange suspendFailureRestoresDevicesWrong)

/-- 'platformfwlaw28.RuntimepmDrivesDevices': WHATEVER THE INPUT: true; the input reads as it did. -/
def runtimepmDrivesDevicesSpec : ChangeSpec := { name := "runtimepmDrivesDevices", fn := fun _ => fun
  | [d1, d2, d3, d4] => { results := [.lit (.bool true)], args := [d1, d2, d3, d4] }
  | _ => none }
def runtimepmDrivesDevicesRow : OpenClaim := { program := "ytdocdgghphhdpaa", sum := "06c32055ba98e138a3ddef88ba5512187026d2e0cc12e38326edb8d75f982f0c", func := "platformfw/platformfwlaw28.RuntimepmDrivesDevices", spec := "runtimepmDrivesDevices", recurses := true, plainKeys := false, apart := false }
def RuntimepmDrivesDevicesSaid : Prop := runtimepmDrivesDevicesRow.holds Try.pinned (OpenSpec.ofChange runtimepmDrivesDevicesSpec)

/-- ITS FALSE NEIGHBOUR: 'it returns false'. Refute it at one input. -/
def runtimepmDrivesDevicesWrong : ChangeSpec := { name := "runtimepmDrivesDevices", fn := fun _ => fun
  | [d1, d2, d3, d4] => { results := [.lit (.bool false)], args := [d1, d2, d3, d4] }
  | _ => none }
def RuntimepmDrivesDevicesWrongFalsely : Prop := runtimepmDrivesDevicesRow.holds Try.pinned (OpenSpec.ofChange runtimepmDrivesDevicesWrong)

/-- 'platformfwlaw28.RuntimepmReleasesRails': WHATEVER THE INPUT: true; the input reads as it did. -/
def runtimepmReleasesRailsSpec : ChangeSpec := { name := "runtimepmReleasesRails", fn := fun _ => fun
  | [d1, d2, d3, d4] => { results := [.lit (.bool true)], args := [d1, d2, d3, d4] }
  | _ => none }
def runtimepmReleasesRailsRow : OpenClaim := { program := "ytdocdgghphhdpaa", sum := "06c32055ba98e138a3ddef88ba5512187026d2e0cc12e38326edb8d75f982f0c", func := "platformfw/platformfwlaw28.RuntimepmReleasesRails", spec := "runtimepmReleasesRails", recurses := true, plainKeys := false, apart := false }
def RuntimepmReleasesRailsSaid : Prop := runtimepmReleasesRailsRow.holds Try.pinned (OpenSpec.ofChange runtimepmReleasesRailsSpec)

/-- ITS FALSE NEIGHBOUR: 'it returns false'. Refute it at one input. -/
def runtimepmReleasesRailsWrong : ChangeSpec := { name := "runtimepmReleasesRails", fn := fun _ => fun
  | [d1, d2, d3, d4] => { results := [.lit (.bool false)], args := [d1, d2, d3, d4] }
  | _ => none }
def RuntimepmReleasesRailsWrongFalsely : Prop := runtimepmReleasesRailsRow.holds Try.pinned (OpenSpec.ofChange runtimepmReleasesRailsWrong)

/-- 'platformfwlaw28.RuntimepmInUseIsAccessible': WHATEVER THE INPUT: true; the input reads as it did. -/
def runtimepmInUseIsAccessibleSpec : ChangeSpec := { name := "runtimepmInUseIsAccessible", fn := fun _ => fun
  | [d1, d2, d3, d4] => { results := [.lit (.bool true)], args := [d1, d2, d3, d4] }
  | _ => none }
def runtimepmInUseIsAccessibleRow : OpenClaim := { program := "ytdocdgghphhdpaa", sum := "06c32055ba98e138a3ddef88ba5512187026d2e0cc12e38326edb8d75f982f0c", func := "platformfw/platformfwlaw28.RuntimepmInUseIsAccessible", spec := "runtimepmInUseIsAccessible", recurses := true, plainKeys := false, apart := false }
def RuntimepmInUseIsAccessibleSaid : Prop := runtimepmInUseIsAccessibleRow.holds Try.pinned (OpenSpec.ofChange runtimepmInUseIsAccessibleSpec)

/-- ITS FALSE NEIGHBOUR: 'it returns false'. Refute it at one input. -/
def runtimepmInUseIsAccessibleWrong : ChangeSpec := { name := "runtimepmInUseIsAccessible", fn := fun _ => fun
  | [d1, d2, d3, d4] => { results := [.lit (.bool false)], args := [d1, d2, d3, d4] }
  | _ => none }
def RuntimepmInUseIsAccessibleWrongFalsely : Prop := runtimepmInUseIsAccessibleRow.holds Try.pinned (OpenSpec.ofChange runtimepmInUseIsAccessibleWrong)

/-- 'platformfwlaw31.ResumeDrivesDevices': WHATEVER THE INPUT: true; the input reads as it did. -/
def resumeDrivesDevicesSpec : ChangeSpec := { name := "resumeDrivesDevices", fn := fun _ => fun
  | [d1, d2, d3, d4] => { results := [.lit (.bool true)], args := [d1, d2, d3, d4] }
  | _ => none }
def resumeDrivesDevicesRow : OpenClaim := { program := "ytdocdgghphhdpaa", sum := "06c32055ba98e138a3ddef88ba5512187026d2e0cc12e38326edb8d75f982f0c", func := "platformfw/platformfwlaw31.ResumeDrivesDevices", spec := "resumeDrivesDevices", recurses := true, plainKeys := false, apart := false }
def ResumeDrivesDevicesSaid : Prop := resumeDrivesDevicesRow.holds Try.pinned (OpenSpec.ofChange resumeDrivesDevicesSpec)

/-- ITS FALSE NEIGHBOUR: 'it returns false'. Refute it at one input. -/
def resumeDrivesDevicesWrong : ChangeSpec := { name := "resumeDrivesDevices", fn := fun _ => fun
  | [d1, d2, d3, d4] => { results := [.lit (.bool false)], args := [d1, d2, d3, d4] }
  | _ => none }
def ResumeDrivesDevicesWrongFalsely : Prop := resumeDrivesDevicesRow.holds Try.pinned (OpenSpec.ofChange resumeDrivesDevicesWrong)

/- THE SECOND FORM. 'bulk': how many values and letters a reading holds, each counted each time it is reached (what is shared counts as often as it is met; a slice's spare places count too). A statement '..UptoSaid' is the law's where the arguments, and the package variables that the reading takes, are together of bulk at most 1048576: NARROWER than '..Said'. Prove '..Said' where nothing that the law and all that it calls make is longer than what came in: it says more and counts as full. Else prove '..UptoSaid'. A law counts once. -/
mutual
def uptoBulk {H : Type} : DataW H → Nat
  | .lit (.string bytes) => bytes.length + 1
  | .lit _ => 1
  | .nil => 1
  | .ptr d => uptoBulk d + 1
  | .slice elems spare => uptoBulkAll elems + uptoBulkAll spare + 1
  | .agg parts => uptoBulkAll parts + 1
  | .iface _ d => uptoBulk d + 1
  | .map entries => uptoBulkEntries entries + 1
  | .held _ => 1
def uptoBulkAll {H : Type} : List (DataW H) → Nat
  | [] => 0
  | d :: r => uptoBulk d + uptoBulkAll r
def uptoBulkEntries {H : Type} : List (Lit × DataW H) → Nat
  | [] => 0
  | x :: r => uptoBulkEntry x + uptoBulkEntries r
def uptoBulkEntry {H : Type} : Lit × DataW H → Nat
  | (.string bytes, d) => bytes.length + uptoBulk d + 1
  | (_, d) => uptoBulk d + 1
 end
def uptoSmall : (H : Type) → List (DataW H) → Bool := fun _ ds => decide (uptoBulkAll ds ≤ 1048576)
def OpenSpec.upto (s : _root_.Go.ChangeSpec) : _root_.Go.OpenSpec := { _root_.Go.OpenSpec.ofChange s with cond := some uptoSmall }

/-- 'platformfwlaw27.DeviceHierarchy', WHERE WHAT IT READS IS OF BULK AT MOST 1048576: true; the input reads as it did. -/
def deviceHierarchyUptoRow : OpenClaim := { program := "ytdocdgghphhdpaa", sum := "06c32055ba98e138a3ddef88ba5512187026d2e0cc12e38326edb8d75f982f0c", func := "platformfw/platformfwlaw27.DeviceHierarchy", spec := "deviceHierarchy", recurses := true, plainKeys := false, apart := false, narrowed := true }
def DeviceHierarchyUptoSaid : Prop := deviceHierarchyUptoRow.holds Try.pinned (OpenSpec.upto deviceHierarchySpec)

/-- 'platformfwlaw27.DeviceRailsMatchStates', WHERE WHAT IT READS IS OF BULK AT MOST 1048576: true; the input reads as it did. -/
def deviceRailsMatchStatesUptoRow : OpenClaim := { program := "ytdocdgghphhdpaa", sum := "06c32055ba98e138a3ddef88ba5512187026d2e0cc12e38326edb8d75f982f0c", func := "platformfw/platformfwlaw27.DeviceRailsMatchStates", spec := "deviceRailsMatchStates", recurses := true, plainKeys := false, apart := false, narrowed := true }
def DeviceRailsMatchStatesUptoSaid : Prop := deviceRailsMatchStatesUptoRow.holds Try.pinned (OpenSpec.upto deviceRailsMatchStatesSpec)

/-- 'platformfwlaw27.DeviceAccessiblePath', WHERE WHAT IT READS IS OF BULK AT MOST 1048576: true; the input reads as it did. -/
def deviceAccessiblePathUptoRow : OpenClaim := { program := "ytdocdgghphhdpaa", sum := "06c32055ba98e138a3ddef88ba5512187026d2e0cc12e38326edb8d75f982f0c", func := "platformfw/platformfwlaw27.DeviceAccessiblePath", spec := "deviceAccessiblePath", recurses := true, plainKeys := false, apart := false, narrowed := true }
def DeviceAccessiblePathUptoSaid : Prop := deviceAccessiblePathUptoRow.holds Try.pinned (OpenSpec.upto deviceAccessiblePathSpec)

/-- 'platformfwlaw27.DevicePowerUp', WHERE WHAT IT READS IS OF BULK AT MOST 1048576: true; the input reads as it did. -/
def devicePowerUpUptoRow : OpenClaim := { program := "ytdocdgghphhdpaa", sum := "06c32055ba98e138a3ddef88ba5512187026d2e0cc12e38326edb8d75f982f0c", func := "platformfw/platformfwlaw27.DevicePowerUp", spec := "devicePowerUp", recurses := true, plainKeys := false, apart := false, narrowed := true }
def DevicePowerUpUptoSaid : Prop := devicePowerUpUptoRow.holds Try.pinned (OpenSpec.upto devicePowerUpSpec)

/-- 'platformfwlaw27.DeviceTreeAgrees', WHERE WHAT IT READS IS OF BULK AT MOST 1048576: true; the input reads as it did. -/
def deviceTreeAgreesUptoRow : OpenClaim := { program := "ytdocdgghphhdpaa", sum := "06c32055ba98e138a3ddef88ba5512187026d2e0cc12e38326edb8d75f982f0c", func := "platformfw/platformfwlaw27.DeviceTreeAgrees", spec := "deviceTreeAgrees", recurses := true, plainKeys := false, apart := false, narrowed := true }
def DeviceTreeAgreesUptoSaid : Prop := deviceTreeAgreesUptoRow.holds Try.pinned (OpenSpec.upto deviceTreeAgreesSpec)

/-- 'platformfwlaw30.SuspendDrivesDevices', WHERE WHAT IT READS IS OF BULK AT MOST 1048576: true; the input reads as it did. -/
def suspendDrivesDevicesUptoRow : OpenClaim := { program := "ytdocdgghphhdpaa", sum := "06c32055ba98e138a3ddef88ba5512187026d2e0cc12e38326edb8d75f982f0c", func := "platformfw/platformfwlaw30.SuspendDrivesDevices", spec := "suspendDrivesDevices", recurses := true, plainKeys := false, apart := false, narrowed := true }
def SuspendDrivesDevicesUptoSaid : Prop := suspendDrivesDevicesUptoRow.holds Try.pinned (OpenSpec.upto suspendDrivesDevicesSpec)

/-- 'platformfwlaw30.SuspendFailureRestoresDevices', WHERE WHAT IT READS IS OF BULK AT MOST 1048576: true; the input reads as it did. -/
def suspendFailureRestoresDevicesUptoRow : OpenClaim := { program := "ytdocdgghphhdpaa", sum := "06c32055ba98e138a3ddef88ba5512187026d2e0cc12e38326edb8d75f982f0c", func := "platformfw/platformfwlaw30.SuspendFailureRestoresDevices", spec := "suspendFailureRestoresDevices", recurses := true, plainKeys := false, apart := false, narrowed := true }
def SuspendFailureRestoresDevicesUptoSaid : Prop := suspendFailureRestoresDevicesUptoRow.holds Try.pinned (OpenSpec.upto suspendFailureRestoresDevicesSpec)

/-- 'platformfwlaw28.RuntimepmDrivesDevices', WHERE WHAT IT READS IS OF BULK AT MOST 1048576: true; the input reads as it did. -/
def runtimepmDrivesDevicesUptoRow : OpenClaim := { program := "ytdocdgghphhdpaa", sum := "06c32055ba98e138a3ddef88ba5512187026d2e0cc12e38326edb8d75f982f0c", func := "platformfw/platformfwlaw28.RuntimepmDrivesDevices", spec := "runtimepmDrivesDevices", recurses := true, plainKeys := false, apart := false, narrowed := true }
def RuntimepmDrivesDevicesUptoSaid : Prop := runtimepmDrivesDevicesUptoRow.holds Try.pinned (OpenSpec.upto runtimepmDrivesDevicesSpec)

/-- 'platformfwlaw28.RuntimepmReleasesRails', WHERE WHAT IT READS IS OF BULK AT MOST 1048576: true; the input reads as it did. -/
def runtimepmReleasesRailsUptoRow : OpenClaim := { program := "ytdocdgghphhdpaa", sum := "06c32055ba98e138a3ddef88ba5512187026d2e0cc12e38326edb8d75f982f0c", func := "platformfw/platformfwlaw28.RuntimepmReleasesRails", spec := "runtimepmReleasesRails", recurses := true, plainKeys := false, apart := false, narrowed := true }
def RuntimepmReleasesRailsUptoSaid : Prop := runtimepmReleasesRailsUptoRow.holds Try.pinned (OpenSpec.upto runtimepmReleasesRailsSpec)

/-- 'platformfwlaw28.RuntimepmInUseIsAccessible', WHERE WHAT IT READS IS OF BULK AT MOST 1048576: true; the input reads as it did. -/
def runtimepmInUseIsAccessibleUptoRow : OpenClaim := { program := "ytdocdgghphhdpaa", sum := "06c32055ba98e138a3ddef88ba5512187026d2e0cc12e38326edb8d75f982f0c", func := "platformfw/platformfwlaw28.RuntimepmInUseIsAccessible", spec := "runtimepmInUseIsAccessible", recurses := true, plainKeys := false, apart := false, narrowed := true }
def RuntimepmInUseIsAccessibleUptoSaid : Prop := runtimepmInUseIsAccessibleUptoRow.holds Try.pinned (OpenSpec.upto runtimepmInUseIsAccessibleSpec)

/-- 'platformfwlaw31.ResumeDrivesDevices', WHERE WHAT IT READS IS OF BULK AT MOST 1048576: true; the input reads as it did. -/
def resumeDrivesDevicesUptoRow : OpenClaim := { program := "ytdocdgghphhdpaa", sum := "06c32055ba98e138a3ddef88ba5512187026d2e0cc12e38326edb8d75f982f0c", func := "platformfw/platformfwlaw31.ResumeDrivesDevices", spec := "resumeDrivesDevices", recurses := true, plainKeys := false, apart := false, narrowed := true }
def ResumeDrivesDevicesUptoSaid : Prop := resumeDrivesDevicesUptoRow.holds Try.pinned (OpenSpec.upto resumeDrivesDevicesSpec)

end Rows
end Go.Proofs.Ytdocdgghphhdpaa
