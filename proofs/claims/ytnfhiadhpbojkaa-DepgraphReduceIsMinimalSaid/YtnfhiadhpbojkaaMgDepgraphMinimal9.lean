/- Walks: depgraph.Consumers. -/
import Derived.Test.YtnfhiadhpbojkaaGraW11Mg
import Derived.Test.YtnfhiadhpbojkaaGraR7Mg
namespace Go.Proofs.Ytnfhiadhpbojkaa
open Go.RowKit
set_option maxHeartbeats 1000000 in
theorem consumers_any (n : Int) (A B : Option Addr) (cp cq : Nat) (l : List (Int × Int)) (of : List Int) (w : World) (hr : Row w A (pcs l)) (hb : Row w B (of.map (Value.int .i64))) (hm : l.length ≤ 4096) (ho : of.length ≤ 4096) :
    Calls Try.prog 30 #[.int .i64 n, .slice A l.length cp, .slice B of.length cq] w (ClosRet w true n l of) := by
  have HR := hide hr
  have HB := hide hb
  clear hr hb
  go_enter Try.func30, Try.ntmps30
  go_wp2_with fail
  refine (closure_any true n A B cp cq l of w HR.out HB.out hm ho).mono ?_
  rintro e w1 ⟨v, rfl, hown, hf⟩
  go_wp2
  go_ret2
  exact ⟨v, rfl, hown, hf⟩
end Go.Proofs.Ytnfhiadhpbojkaa

/- Walks over the reference of layer 24: Consumers. -/
namespace Go.Proofs.Ytnfhiadhpbojkaa
open Go.RowKit
set_option maxHeartbeats 1000000 in
theorem rconsumers_any (n : Int) (A B : Option Addr) (cp cq : Nat) (l : List (Int × Int)) (of : List Int) (w : World) (hr : Row w A (pcs l)) (hb : Row w B (of.map (Value.int .i64))) (hm : l.length ≤ 4096) (ho : of.length ≤ 4096) :
    Calls Try.prog 31 #[.int .i64 n, .slice A l.length cp, .slice B of.length cq] w (ClosRet w true n l of) := by
  have HR := hide hr
  have HB := hide hb
  clear hr hb
  go_enter Try.func31, Try.ntmps31
  go_wp2_with fail
  refine (rclosure_true n A B cp cq l of w HR.out HB.out hm ho).mono ?_
  rintro e w1 ⟨v, rfl, hown, hf⟩
  go_wp2
  go_ret2
  exact ⟨v, rfl, hown, hf⟩
end Go.Proofs.Ytnfhiadhpbojkaa

