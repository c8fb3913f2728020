/- (slices.Clone: HlpClone.) -/
import Derived.Test.YtgbkgiglagfciaaSuspW3
import Derived.Test.YtgbkgiglagfciaaHlpClone
namespace Go.Proofs.Ytgbkgiglagfciaa
open Go.RowKit
theorem int_info : (Try.prog.info? 3).map (fun i => (i.zero, i.size, i.bytes)) = some (some (.int .i64 0), 1, 8) := by kernel_rfl
end Go.Proofs.Ytgbkgiglagfciaa
