/- Walks: validState; a device whose rails' lists are known. -/
import Derived.Test.YtmkbahmjickoiaaDevW5
namespace Go.Proofs.Ytmkbahmjickoiaa
open Go.RowKit

set_option maxHeartbeats 400000 in
theorem validState_any (s : Int) (w : World) : Calls Try.prog 24 #[.int .i64 s] w fun e w' => e = .returned (.bool (decide (0 ≤ s ∧ s ≤ 4))) ∧ w = w' := by
  by_cases h0 : 0 ≤ s
  · have hd : decide (0 ≤ s ∧ s ≤ 4) = decide (s ≤ 4) := by simp [h0]
    have HD := hide hd
    clear hd
    go_enter Try.func24, Try.ntmps24
    go_wp2
    go_ret
    exact ⟨ret_bool HD.out.symm, rfl⟩
  · have hd : decide (0 ≤ s ∧ s ≤ 4) = false := by simp; omega
    have HD := hide hd
    clear hd
    go_enter Try.func24, Try.ntmps24
    go_wp2
    go_ret
    refine ⟨ret_bool ?_, rfl⟩
    rw [Bool.eq_iff_iff]
    simp
    omega
/-- The rails' lists of a device. -/
def RailsAt (w : World) (d : PD) (rl : Nat → List Int) : Prop := ∀ k, k < 4 → ∃ A cp, d.rf k = .slice A (rl k).length cp ∧ Row w A ((rl k).map (Value.int .i64))
theorem RailsAt.fr0 {w w' : World} {d : PD} {rl : Nat → List Int} (h : RailsAt w d rl) (k : Fr [] w w') : RailsAt w' d rl := fun i hi => by
  obtain ⟨A, cp, e, hr⟩ := h i hi
  exact ⟨A, cp, e, hr.fr0 k⟩
def needL (rl : Nat → List Int) (k : Nat) : List Int := if k = 4 then [] else rl k
theorem RailsAt.need {w : World} {d : PD} {rl : Nat → List Int} (h : RailsAt w d rl) {k : Nat} (hk : k ≤ 4) : ∃ A cp, d.need k = .slice A (needL rl k).length cp ∧ Row w A ((needL rl k).map (Value.int .i64)) := by
  unfold PD.need needL
  by_cases h4 : k = 4
  · rw [if_pos h4, if_pos h4]
    exact ⟨none, 0, rfl, Row.nil _ _⟩
  · rw [if_neg h4, if_neg h4]
    exact h k (by omega)
/-- What Change returns: the rails to acquire, those to release, the error. -/
def changeM (rl : Nat → List Int) (a b : Int) : List Int × List Int × Int :=
  if 0 ≤ a ∧ a ≤ 4 ∧ 0 ≤ b ∧ b ≤ 4 then (if ascB (needL rl a.toNat) = true ∧ ascB (needL rl b.toNat) = true then (diffM (needL rl b.toNat) (needL rl a.toNat), (diffM (needL rl a.toNat) (needL rl b.toNat)).reverse, 0) else ([], [], 1)) else ([], [], 1)
end Go.Proofs.Ytmkbahmjickoiaa
