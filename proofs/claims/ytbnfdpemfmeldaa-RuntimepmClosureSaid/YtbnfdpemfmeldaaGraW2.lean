/- Walks: depgraph.neighbors, both ways. -/
import Derived.Test.YtbnfdpemfmeldaaGraW2b
import Derived.Test.YtbnfdpemfmeldaaGraW2c
namespace Go.Proofs.Ytbnfdpemfmeldaa
open Go.RowKit
theorem neighbors_any (cons : Bool) (n : Nat) (A : Option Addr) (cp : Nat) (l : List (Int × Int)) (w : World) (hr : Row w A (pcs l)) (hok : LinksOk n l) :
    Calls Try.prog 58 #[.int .i64 n, .slice A l.length cp, .bool cons] w (NbRet w cons n l) := by
  cases cons
  · exact neighbors_false n A cp l w hr hok
  · exact neighbors_true n A cp l w hr hok
end Go.Proofs.Ytbnfdpemfmeldaa
