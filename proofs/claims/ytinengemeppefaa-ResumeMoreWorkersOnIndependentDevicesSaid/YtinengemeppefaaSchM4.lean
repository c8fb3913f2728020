/- A schedule depends on the durations of its devices alone. -/
import Derived.Test.YtinengemeppefaaSchM3
namespace Go.Proofs.Ytinengemeppefaa
theorem step_congr {N W : Nat} {L : List (Nat × Nat)} {D D' : Nat → Nat} (h : ∀ d, d < N → D d = D' d) (p : St) : stepS N L D W p = stepS N L D' W p := by
  unfold stepS
  cases h1 : rdy N L p with
  | none => rfl
  | some d =>
    cases h2 : fre W p with
    | none => rfl
    | some w =>
      simp only [beginS]
      rw [h d (rdy_some.1 h1).1]
theorem sched_congr {N W : Nat} {L : List (Nat × Nat)} {D D' : Nat → Nat} (h : ∀ d, d < N → D d = D' d) : sched N L D W = sched N L D' W := by
  have : ∀ j, iterS N L D W j = iterS N L D' W j := fun j => by
    induction j with
    | zero => rfl
    | succ j ih =>
      show (stepS N L D W (iterS N L D W j)).getD _ = (stepS N L D' W (iterS N L D' W j)).getD _
      rw [ih, step_congr h]
  unfold sched finS
  rw [this]
end Go.Proofs.Ytinengemeppefaa
