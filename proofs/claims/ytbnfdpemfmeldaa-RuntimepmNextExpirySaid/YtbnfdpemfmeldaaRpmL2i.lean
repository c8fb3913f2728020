/- The law RuntimepmNextExpiry, its last argument a number that fits. -/
import Derived.Test.YtbnfdpemfmeldaaRpmL2
import Derived.Test.YtbnfdpemfmeldaaOpen28
namespace Go.Proofs.Ytbnfdpemfmeldaa
open Go.RowKit
theorem next_walk_int (A B : Option Addr) (cp cq : Nat) (raw : List ID) (l : List CL) (later : Int) (w : World) (hr : Row w A (idcs raw)) (hw : ∀ x ∈ raw, IdWf w x) (hm : raw.length ≤ maxLen) (hl : Row w B (clcs l)) (hlm : l.length ≤ maxLen) (hlw : ∀ c ∈ l, c.wait ≤ 18446744073709551615) (hx : (Lit.int .u64 later).wf = true) :
    Calls Try.prog 5 #[.slice A raw.length cp, .slice B l.length cq, .int .u64 later] w fun e w' => e = .returned (.bool true) ∧ Fr [] w w' := by
  obtain ⟨n, rfl, -⟩ := nat_of hx
  exact next_walk A B cp cq raw l n w hr hw hm hl hlm hlw
end Go.Proofs.Ytbnfdpemfmeldaa
