/- help.Mod, walked. -/
import Derived.Test.YtgbkgiglagfciaaBase
import Derived.Test.YtgbkgiglagfciaaProg
namespace Go.Proofs.Ytgbkgiglagfciaa
open Go.RowKit

def umod (v : Int) (n : Nat) : Nat := ((IntKind.u64.wrap v).toNat) % n
theorem umod_lt (v : Int) {n : Nat} (h : 0 < n) : umod v n < n := Nat.mod_lt _ h
theorem wrap_u64 (v : Int) : IntKind.u64.wrap v = v % 18446744073709551616 := by simp [IntKind.wrap, IntKind.signed, IntKind.bits]

set_option maxHeartbeats 400000 in
theorem mod_any (v : Int) (n : Nat) (w : World) (h0 : 0 < n) (h1 : n ≤ 4096) :
    Calls Try.prog 14 #[.int .i64 v, .int .i64 n] w fun e w' => e = .returned (.int .i64 (umod v n)) ∧ w = w' := by
  have hb : (1 : Int) ≤ (n : Int) := by omega
  have hb2 : (n : Int) ≤ 4096 := by omega
  clear h0 h1
  go_enter Try.func14, Try.ntmps14
  go_wp2
  go_ret
  refine ⟨ret_int ?_, rfl⟩
  have hw : 0 ≤ IntKind.u64.wrap v := by rw [wrap_u64]; omega
  have e : (IntKind.u64.wrap v).tmod (n : Int) = ((umod v n : Nat) : Int) := by
    obtain ⟨m, hm⟩ := Int.eq_ofNat_of_zero_le hw
    unfold umod
    rw [hm, Int.toNat_natCast]
    exact (Int.ofNat_tmod m n).symm
  rw [e]
  have := umod_lt v (n := n) (by omega)
  exact IntWalk.wrap64_in _ ⟨by omega, by omega⟩
end Go.Proofs.Ytgbkgiglagfciaa
