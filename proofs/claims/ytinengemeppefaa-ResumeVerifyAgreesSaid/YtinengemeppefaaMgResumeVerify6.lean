/- Arguments that came in, opened: slices of uint64, of slots. -/
import Derived.Test.YtinengemeppefaaOpenMg
import Derived.Test.YtinengemeppefaaMgResumeVerify5
namespace Go.Proofs.Ytinengemeppefaa
open Go.RowKit Go.ChangeShapes Go.WideShapes Go.Deep
theorem flat_one {α β : Type} (g : α → β) (l : List α) : l.flatMap (fun x => [g x]) = l.map g := by
  induction l with
  | nil => rfl
  | cons a l ih => simp [ih]
theorem nat_of {x : Int} (h : (Lit.int .u64 x).wf = true) : ∃ n : Nat, x = (n : Int) ∧ n ≤ 18446744073709551615 := by
  simp only [Lit.wf, Bool.and_eq_true, decide_eq_true_eq] at h
  have h0 : 0 ≤ x := h.1
  have h1 : x ≤ 18446744073709551615 := h.2
  obtain ⟨n, rfl⟩ := Int.eq_ofNat_of_zero_le h0
  exact ⟨n, rfl, by omega⟩
section
variable {H : Type} {enc : TypeId × Value → H} {w : World} {base : Nat} {spare : Nat → Bool} {held : Bool}
theorem open_u64l {A : Option Addr} {len cap : Nat} {d : DataW H} {p : List MemPlace} (h : DataW.Trod enc Try.prog w base spare held 23 (.slice A len cap) d p) :
    ∃ l : List Nat, l.length = len ∧ Row w A (l.map uv) ∧ l.length ≤ maxLen ∧ (A = none → cap = 0) ∧ ∀ q ∈ l, q ≤ 18446744073709551615 := by
  obtain ⟨l, h1, h2, h3⟩ := open_rows (f := fun x : Nat => [uv x]) (m := 1) (Wf := fun q => q ≤ 18446744073709551615) Try.underlying23 (by kernel_rfl) (by omega) (fun _ => rfl) (fun n cs y h => by
    obtain ⟨a, rfl, _, wa⟩ := DataW.trod_int Try.underlying33 h
    obtain ⟨n, rfl, hn⟩ := nat_of wa
    exact ⟨n, rfl, hn⟩) h
  rw [flat_one] at h2
  exact ⟨l, h1, h2, h3⟩
end
end Go.Proofs.Ytinengemeppefaa

/- Arguments that came in, opened: slots. -/
namespace Go.Proofs.Ytinengemeppefaa
open Go.RowKit Go.ChangeShapes Go.WideShapes Go.Deep
section
variable {H : Type} {enc : TypeId × Value → H} {w : World} {base : Nat} {spare : Nat → Bool} {held : Bool}
theorem sl_fields : ∃ f0 f1 f2 f3, Try.prog.underlying 38 = some (.struct #[f0, f1, f2, f3]) ∧ (f0.type = 3 ∧ f1.type = 3 ∧ f2.type = 33 ∧ f3.type = 33) ∧ (f0.offset = 0 ∧ f1.offset = 1 ∧ f2.offset = 2 ∧ f3.offset = 3) :=
  ⟨(Try.prog.fieldsOf 38)[0]!, (Try.prog.fieldsOf 38)[1]!, (Try.prog.fieldsOf 38)[2]!, (Try.prog.fieldsOf 38)[3]!, by kernel_rfl, ⟨by kernel_rfl, by kernel_rfl, by kernel_rfl, by kernel_rfl⟩, by kernel_rfl, by kernel_rfl, by kernel_rfl, by kernel_rfl⟩
/-- A slot that came in. -/
def SlWf (x : RSl) : Prop := Fits x.d ∧ Fits x.w ∧ RFits x
theorem open_slot {n : Nat} {cs : List Value} {y : DataW H × List MemPlace} (h : DataW.trod enc Try.prog w base spare held n 38 cs = some y) : ∃ x : RSl, cs = rcell x ∧ SlWf x := by
  obtain ⟨f0, f1, f2, f3, hs, ⟨t0, t1, t2, t3⟩, o0, o1, o2, o3⟩ : ∃ f0 f1 f2 f3, Try.prog.underlying 38 = some (.struct #[f0, f1, f2, f3]) ∧ (f0.type = 3 ∧ f1.type = 3 ∧ f2.type = 33 ∧ f3.type = 33) ∧ (f0.offset = 0 ∧ f1.offset = 1 ∧ f2.offset = 2 ∧ f3.offset = 3) := sl_fields
  obtain ⟨xs, k, _, _, hl, hlen, hf⟩ := DataW.trod_struct hs h
  have hc : Try.prog.cellsOf 38 = 4 := by kernel_rfl
  have hi : Try.prog.cellsOf 3 = 1 := by kernel_rfl
  have hu : Try.prog.cellsOf 33 = 1 := by kernel_rfl
  rw [hc] at hl
  match xs, hlen, cs, hl with
  | [x0, x1, x2, x3], _, [c0, c1, c2, c3], _ =>
    have g0 := hf 0 f0 rfl
    have g1 := hf 1 f1 rfl
    have g2 := hf 2 f2 rfl
    have g3 := hf 3 f3 rfl
    rw [t0, o0, hi] at g0
    rw [t1, o1, hi] at g1
    rw [t2, o2, hu] at g2
    rw [t3, o3, hu] at g3
    simp at g0 g1 g2 g3
    obtain ⟨a0, e0, _, w0⟩ := DataW.trod_int Try.underlying3 g0
    obtain ⟨a1, e1, _, w1⟩ := DataW.trod_int Try.underlying3 g1
    obtain ⟨a2, e2, _, w2⟩ := DataW.trod_int Try.underlying33 g2
    obtain ⟨a3, e3, _, w3⟩ := DataW.trod_int Try.underlying33 g3
    obtain ⟨n2, rfl, hn2⟩ := nat_of w2
    obtain ⟨n3, rfl, hn3⟩ := nat_of w3
    simp at e0 e1 e2 e3
    subst e0 e1 e2 e3
    exact ⟨⟨a0, a1, n2, n3⟩, rfl, fits_of w0, fits_of w1, hn2, hn3⟩
theorem open_cap {P : Program} {t e : TypeId} (ht : P.underlying t = some (.slice e)) {A : Option Addr} {len cap : Nat} {d : DataW H} {p : List MemPlace} (h : DataW.Trod enc P w base spare held t (.slice A len cap) d p) : len ≤ cap := by
  obtain ⟨fuel, h⟩ := h
  rcases open_slice ht h with ⟨hcs, _⟩ | ⟨a, len', cap', k, n, D, Pl, hcs, _, hl, hml, hk, _, hi⟩
  · simp [Value.cells] at hcs
    omega
  · simp [Value.cells] at hcs
    omega
/-- Slots; the last part tells also that they lie within the capacity. -/
theorem open_slots {A : Option Addr} {len cap : Nat} {d : DataW H} {p : List MemPlace} (h : DataW.Trod enc Try.prog w base spare held 29 (.slice A len cap) d p) :
    ∃ l : List RSl, l.length = len ∧ Row w A (rcells l) ∧ l.length ≤ maxLen ∧ (A = none → cap = 0) ∧ (l.length ≤ cap ∧ ∀ q ∈ l, SlWf q) := by
  obtain ⟨l, h1, h2, h3, h4, h5⟩ := open_rows (f := rcell) (m := 4) (Wf := SlWf) Try.underlying29 (by kernel_rfl) (by omega) rcell_len (fun _ _ _ h => open_slot h) h
  have hc := open_cap Try.underlying29 h
  exact ⟨l, h1, h2, h3, h4, by omega, h5⟩
end
end Go.Proofs.Ytinengemeppefaa

