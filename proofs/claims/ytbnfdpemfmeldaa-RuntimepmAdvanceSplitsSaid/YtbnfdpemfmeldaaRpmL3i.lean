/- The law RuntimepmAdvanceSplits, its last arguments numbers that fit. -/
import Derived.Test.YtbnfdpemfmeldaaRpmL3
import Derived.Test.YtbnfdpemfmeldaaOpen28
namespace Go.Proofs.Ytbnfdpemfmeldaa
open Go.RowKit
theorem splits_walk_int (A B : Option Addr) (cp cq : Nat) (raw : List ID) (l : List CL) (x y : Int) (w : World) (hr : Row w A (idcs raw)) (hw : ∀ x ∈ raw, IdWf w x) (hm : raw.length ≤ maxLen) (hl : Row w B (clcs l)) (hlm : l.length ≤ maxLen) (hlw : ∀ c ∈ l, c.wait ≤ 18446744073709551615) (hx : (Lit.int .u64 x).wf = true) (hy : (Lit.int .u64 y).wf = true) :
    Calls Try.prog 4 #[.slice A raw.length cp, .slice B l.length cq, .int .u64 x, .int .u64 y] w fun e w' => e = .returned (.bool true) ∧ Fr [] w w' := by
  obtain ⟨n, rfl, -⟩ := nat_of hx
  obtain ⟨m, rfl, -⟩ := nat_of hy
  exact splits_walk A B cp cq raw l n m w hr hw hm hl hlm hlw
end Go.Proofs.Ytbnfdpemfmeldaa
