/- Walks: depgraph.neighbors, both ways. -/
import Derived.Test.YtinengemeppefaaGraW2b
import Derived.Test.YtinengemeppefaaGraW2c
namespace Go.Proofs.Ytinengemeppefaa
open Go.RowKit
theorem neighbors_any (cons : Bool) (n : Nat) (A : Option Addr) (cp : Nat) (l : List (Int × Int)) (w : World) (hr : Row w A (pcs l)) (hok : LinksOk n l) :
    Calls Try.prog 41 #[.int .i64 n, .slice A l.length cp, .bool cons] w (NbRet w cons n l) := by
  cases cons
  · exact neighbors_false n A cp l w hr hok
  · exact neighbors_true n A cp l w hr hok
end Go.Proofs.Ytinengemeppefaa
