/- Arguments that came in, opened: idle devices, calls. -/
import Derived.Test.YtbnfdpemfmeldaaMgRuntimeNew6
import Derived.Test.YtbnfdpemfmeldaaMgRuntimeNew1
import Derived.OpenShut
namespace Go.Proofs.Ytbnfdpemfmeldaa
open Go.RowKit Go.ChangeShapes Go.WideShapes Go.Deep
theorem flat_one {α β : Type} (g : α → β) (l : List α) : l.flatMap (fun x => [g x]) = l.map g := by
  induction l with
  | nil => rfl
  | cons a l ih => simp [ih]
theorem nat_of {x : Int} (h : (Lit.int .u64 x).wf = true) : ∃ n : Nat, x = (n : Int) ∧ n ≤ 18446744073709551615 := by
  simp only [Lit.wf, Bool.and_eq_true, decide_eq_true_eq] at h
  have h0 : 0 ≤ x := h.1
  have h1 : x ≤ 18446744073709551615 := h.2
  obtain ⟨n, rfl⟩ := Int.eq_ofNat_of_zero_le h0
  exact ⟨n, rfl, by omega⟩
section
variable {H : Type} {enc : TypeId × Value → H} {w : World} {base : Nat} {spare : Nat → Bool} {held : Bool}
theorem open_intl {A : Option Addr} {len cap : Nat} {d : DataW H} {p : List MemPlace} (h : DataW.Trod enc Try.prog w base spare held 27 (.slice A len cap) d p) :
    ∃ l : List Int, l.length = len ∧ Row w A (l.map (Value.int .i64)) ∧ l.length ≤ maxLen ∧ (A = none → cap = 0) ∧ ∀ q ∈ l, Fits q := by
  obtain ⟨l, h1, h2, h3⟩ := open_rows (f := fun x : Int => [Value.int .i64 x]) (m := 1) (Wf := Fits) Try.underlying27 (by kernel_rfl) (by omega) (fun _ => rfl) (fun n cs y h => by
    obtain ⟨a, rfl, _, wa⟩ := DataW.trod_int Try.underlying3 h
    exact ⟨a, rfl, fits_of wa⟩) h
  rw [flat_one] at h2
  exact ⟨l, h1, h2, h3⟩
theorem open_intc {n : Nat} {c : Value} {y : DataW H × List MemPlace} (h : DataW.trod enc Try.prog w base spare held n 27 [c] = some y) :
    ∃ A cp, ∃ l : List Int, c = .slice A l.length cp ∧ Row w A (l.map (Value.int .i64)) ∧ l.length ≤ maxLen ∧ ∀ q ∈ l, Fits q := by
  obtain ⟨A, len, cap, rfl⟩ : ∃ A len cap, c = .slice A len cap := by
    rcases open_slice Try.underlying27 h with ⟨hcs, _⟩ | ⟨a, len', cap', _, _, _, _, hcs, _⟩
    · simp at hcs; exact ⟨_, _, _, hcs⟩
    · simp at hcs; exact ⟨_, _, _, hcs⟩
  obtain ⟨l, rfl, hr, hm, _, hw⟩ := open_intl (d := y.1) (p := y.2) ⟨n, h⟩
  exact ⟨A, cap, l, rfl, hr, hm, hw⟩
theorem id_fields : ∃ f0 f1 f2, Try.prog.underlying 30 = some (.struct #[f0, f1, f2]) ∧ (f0.type = 3 ∧ f1.type = 27 ∧ f2.type = 28) ∧ (f0.offset = 0 ∧ f1.offset = 1 ∧ f2.offset = 2) :=
  ⟨(Try.prog.fieldsOf 30)[0]!, (Try.prog.fieldsOf 30)[1]!, (Try.prog.fieldsOf 30)[2]!, by kernel_rfl, ⟨by kernel_rfl, by kernel_rfl, by kernel_rfl⟩, by kernel_rfl, by kernel_rfl, by kernel_rfl⟩
theorem open_id {n : Nat} {cs : List Value} {y : DataW H × List MemPlace} (h : DataW.trod enc Try.prog w base spare held n 30 cs = some y) : ∃ x : ID, cs = idc x ∧ IdWf w x := by
  obtain ⟨f0, f1, f2, hs, ⟨t0, t1, t2⟩, o0, o1, o2⟩ : ∃ f0 f1 f2, Try.prog.underlying 30 = some (.struct #[f0, f1, f2]) ∧ (f0.type = 3 ∧ f1.type = 27 ∧ f2.type = 28) ∧ (f0.offset = 0 ∧ f1.offset = 1 ∧ f2.offset = 2) := id_fields
  obtain ⟨xs, k, _, _, hl, hlen, hf⟩ := DataW.trod_struct hs h
  have hc : Try.prog.cellsOf 30 = 3 := by kernel_rfl
  have hi : Try.prog.cellsOf 3 = 1 := by kernel_rfl
  have hu : Try.prog.cellsOf 28 = 1 := by kernel_rfl
  have hsl : Try.prog.cellsOf 27 = 1 := by kernel_rfl
  rw [hc] at hl
  match xs, hlen, cs, hl with
  | [x0, x1, x2], _, [c0, c1, c2], _ =>
    have g0 := hf 0 f0 rfl
    have g1 := hf 1 f1 rfl
    have g2 := hf 2 f2 rfl
    rw [t0, o0, hi] at g0
    rw [t1, o1, hsl] at g1
    rw [t2, o2, hu] at g2
    simp at g0 g1 g2
    obtain ⟨a0, e0, _, w0⟩ := DataW.trod_int Try.underlying3 g0
    obtain ⟨a2, e2, _, w2⟩ := DataW.trod_int Try.underlying28 g2
    obtain ⟨A, cp, l, rfl, r1, m1, q1⟩ := open_intc g1
    obtain ⟨n2, rfl, hn2⟩ := nat_of w2
    simp at e0 e2
    subst e0 e2
    exact ⟨⟨a0, .slice A l.length cp, n2, l⟩, rfl, ⟨⟨A, cp, rfl, r1⟩, m1, hn2, fits_of w0, q1⟩⟩
theorem open_ids {A : Option Addr} {len cap : Nat} {d : DataW H} {p : List MemPlace} (h : DataW.Trod enc Try.prog w base spare held 22 (.slice A len cap) d p) :
    ∃ l : List ID, l.length = len ∧ Row w A (idcs l) ∧ l.length ≤ maxLen ∧ (A = none → cap = 0) ∧ ∀ q ∈ l, IdWf w q :=
  open_rows (f := idc) Try.underlying22 (by kernel_rfl) (by omega) idc_len (fun _ _ _ h => open_id h) h
theorem call_fields : ∃ f0 f1 f2 f3, Try.prog.underlying 54 = some (.struct #[f0, f1, f2, f3]) ∧ (f0.type = 3 ∧ f1.type = 3 ∧ f2.type = 28 ∧ f3.type = 4) ∧ (f0.offset = 0 ∧ f1.offset = 1 ∧ f2.offset = 2 ∧ f3.offset = 3) :=
  ⟨(Try.prog.fieldsOf 54)[0]!, (Try.prog.fieldsOf 54)[1]!, (Try.prog.fieldsOf 54)[2]!, (Try.prog.fieldsOf 54)[3]!, by kernel_rfl, ⟨by kernel_rfl, by kernel_rfl, by kernel_rfl, by kernel_rfl⟩, by kernel_rfl, by kernel_rfl, by kernel_rfl, by kernel_rfl⟩
theorem open_call {n : Nat} {cs : List Value} {y : DataW H × List MemPlace} (h : DataW.trod enc Try.prog w base spare held n 54 cs = some y) : ∃ x : CL, cs = clc x ∧ x.wait ≤ 18446744073709551615 := by
  obtain ⟨f0, f1, f2, f3, hs, ⟨t0, t1, t2, t3⟩, o0, o1, o2, o3⟩ : ∃ f0 f1 f2 f3, Try.prog.underlying 54 = some (.struct #[f0, f1, f2, f3]) ∧ (f0.type = 3 ∧ f1.type = 3 ∧ f2.type = 28 ∧ f3.type = 4) ∧ (f0.offset = 0 ∧ f1.offset = 1 ∧ f2.offset = 2 ∧ f3.offset = 3) := call_fields
  obtain ⟨xs, k, _, _, hl, hlen, hf⟩ := DataW.trod_struct hs h
  have hc : Try.prog.cellsOf 54 = 4 := by kernel_rfl
  have hi : Try.prog.cellsOf 3 = 1 := by kernel_rfl
  have hu : Try.prog.cellsOf 28 = 1 := by kernel_rfl
  have hb : Try.prog.cellsOf 4 = 1 := by kernel_rfl
  rw [hc] at hl
  match xs, hlen, cs, hl with
  | [x0, x1, x2, x3], _, [c0, c1, c2, c3], _ =>
    have g0 := hf 0 f0 rfl
    have g1 := hf 1 f1 rfl
    have g2 := hf 2 f2 rfl
    have g3 := hf 3 f3 rfl
    rw [t0, o0, hi] at g0
    rw [t1, o1, hi] at g1
    rw [t2, o2, hu] at g2
    rw [t3, o3, hb] at g3
    simp at g0 g1 g2 g3
    obtain ⟨a0, e0, _, _⟩ := DataW.trod_int Try.underlying3 g0
    obtain ⟨a1, e1, _, _⟩ := DataW.trod_int Try.underlying3 g1
    obtain ⟨a2, e2, _, w2⟩ := DataW.trod_int Try.underlying28 g2
    obtain ⟨a3, e3, _⟩ := DataW.trod_bool Try.underlying4 g3
    obtain ⟨n2, rfl, hn2⟩ := nat_of w2
    simp at e0 e1 e2 e3
    subst e0 e1 e2 e3
    exact ⟨⟨a0, a1, n2, a3⟩, rfl, hn2⟩
theorem open_calls {A : Option Addr} {len cap : Nat} {d : DataW H} {p : List MemPlace} (h : DataW.Trod enc Try.prog w base spare held 39 (.slice A len cap) d p) :
    ∃ l : List CL, l.length = len ∧ Row w A (clcs l) ∧ l.length ≤ maxLen ∧ (A = none → cap = 0) ∧ ∀ q ∈ l, q.wait ≤ 18446744073709551615 :=
  open_rows (f := clc) Try.underlying39 (by kernel_rfl) (by omega) clc_len (fun _ _ _ h => open_call h) h
end
end Go.Proofs.Ytbnfdpemfmeldaa

