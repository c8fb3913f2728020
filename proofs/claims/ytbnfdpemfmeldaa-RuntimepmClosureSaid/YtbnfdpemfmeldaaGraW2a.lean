/- Walks: depgraph.neighbors. -/
import Derived.Test.YtbnfdpemfmeldaaGraW1
import Derived.Test.YtbnfdpemfmeldaaLists
import Derived.Test.YtbnfdpemfmeldaaMake
import Derived.Deep.RegionHeld3
import Derived.Deep.RegionLaw
import Derived.StillTailTactics
namespace Go.Proofs.Ytbnfdpemfmeldaa
open Go.RowKit

theorem ints_info : (Try.prog.info? 27).map (fun i => (i.zero, i.size, i.bytes)) = some (some (.slice none 0 0), 1, 24) := by kernel_rfl
theorem make_lists (n c : Nat) (hnc : n ≤ c) (hc : c ≤ 1000000) (w : World) : (Instr.makeSlice 89 (.int .i64 (n : Int)) (.int .i64 (c : Int))).run Try.prog w = .ok (.slice (some ⟨w.heap.size, 0, none⟩) n c) (w.alloc (.cells (Array.replicate c (.slice none 0 0)) 27)) :=
  run_make_one _ _ _ 24 Try.underlying89 ints_info rfl n c hnc (by omega) hc w

def NbRel (w : World) (g : Nat) (cons : Bool) (n : Nat) (l : List (Int × Int)) (m : Nat) (i : Value) (wr : World) : Prop :=
  ∃ k : Nat, k ≤ l.length ∧ i = .int .i64 k ∧ ListsAt wr w.heap.size g (nbs cons n (toNs (l.take k))) ∧ Fr [] w wr ∧ m = l.length - k
def NbRet (w : World) (cons : Bool) (n : Nat) (l : List (Int × Int)) (e : Ending) (w' : World) : Prop :=
  ∃ g, e = .returned (.slice (some ⟨g, 0, none⟩) n n) ∧ ListsAt w' w.heap.size g (nbs cons n (toNs l)) ∧ Fr [] w w'

end Go.Proofs.Ytbnfdpemfmeldaa
