/- Arguments that came in, opened: slices of ints. -/
import Derived.Test.YtgbkgiglagfciaaOpen
namespace Go.Proofs.Ytgbkgiglagfciaa
open Go.RowKit Go.ChangeShapes Go.WideShapes Go.Deep
theorem flat_one {α β : Type} (g : α → β) (l : List α) : l.flatMap (fun x => [g x]) = l.map g := by
  induction l with
  | nil => rfl
  | cons a l ih => simp [ih]
section
variable {H : Type} {enc : TypeId × Value → H} {w : World} {base : Nat} {spare : Nat → Bool} {held : Bool}
theorem open_intl {A : Option Addr} {len cap : Nat} {d : DataW H} {p : List MemPlace} (h : DataW.Trod enc Try.prog w base spare held 22 (.slice A len cap) d p) :
    ∃ l : List Int, l.length = len ∧ Row w A (l.map (Value.int .i64)) ∧ l.length ≤ maxLen ∧ (A = none → cap = 0) ∧ ∀ q ∈ l, Fits q := by
  obtain ⟨l, h1, h2, h3⟩ := open_rows (f := fun x : Int => [Value.int .i64 x]) (m := 1) (Wf := Fits) Try.underlying22 (by kernel_rfl) (by omega) (fun _ => rfl) (fun n cs y h => by
    obtain ⟨a, rfl, _, wa⟩ := DataW.trod_int Try.underlying3 h
    exact ⟨a, rfl, fits_of wa⟩) h
  rw [flat_one] at h2
  exact ⟨l, h1, h2, h3⟩
end
end Go.Proofs.Ytgbkgiglagfciaa
