/- Arguments that came in, opened: slices of uint64, of slots. -/
import Derived.Test.YtkbfnhkcmelneaaOpenMg
import Derived.Test.YtkbfnhkcmelneaaSchVMg
namespace Go.Proofs.Ytkbfnhkcmelneaa
open Go.RowKit Go.ChangeShapes Go.WideShapes Go.Deep
theorem flat_one {α β : Type} (g : α → β) (l : List α) : l.flatMap (fun x => [g x]) = l.map g := by
  induction l with
  | nil => rfl
  | cons a l ih => simp [ih]
theorem nat_of {x : Int} (h : (Lit.int .u64 x).wf = true) : ∃ n : Nat, x = (n : Int) ∧ n ≤ 18446744073709551615 := by
  simp only [Lit.wf, Bool.and_eq_true, decide_eq_true_eq] at h
  have h0 : 0 ≤ x := h.1
  have h1 : x ≤ 18446744073709551615 := h.2
  obtain ⟨n, rfl⟩ := Int.eq_ofNat_of_zero_le h0
  exact ⟨n, rfl, by omega⟩
section
variable {H : Type} {enc : TypeId × Value → H} {w : World} {base : Nat} {spare : Nat → Bool} {held : Bool}
theorem open_u64l {A : Option Addr} {len cap : Nat} {d : DataW H} {p : List MemPlace} (h : DataW.Trod enc Try.prog w base spare held 23 (.slice A len cap) d p) :
    ∃ l : List Nat, l.length = len ∧ Row w A (l.map uv) ∧ l.length ≤ maxLen ∧ (A = none → cap = 0) ∧ ∀ q ∈ l, q ≤ 18446744073709551615 := by
  obtain ⟨l, h1, h2, h3⟩ := open_rows (f := fun x : Nat => [uv x]) (m := 1) (Wf := fun q => q ≤ 18446744073709551615) Try.underlying23 (by kernel_rfl) (by omega) (fun _ => rfl) (fun n cs y h => by
    obtain ⟨a, rfl, _, wa⟩ := DataW.trod_int Try.underlying36 h
    obtain ⟨n, rfl, hn⟩ := nat_of wa
    exact ⟨n, rfl, hn⟩) h
  rw [flat_one] at h2
  exact ⟨l, h1, h2, h3⟩
end
end Go.Proofs.Ytkbfnhkcmelneaa

