/- Arguments that came in, opened: slices of uint64 and calls of chapter 28, beside the other openings of the tree's laws. -/
import Derived.Test.YtdocdgghphhdpaaMgRpReleases21
import Derived.Test.YtdocdgghphhdpaaMgRpReleases18
import Derived.Test.YtdocdgghphhdpaaMgRpReleases19
namespace Go.Proofs.Ytdocdgghphhdpaa
open Go.RowKit Go.ChangeShapes Go.WideShapes Go.Deep
section
variable {H : Type} {enc : TypeId × Value → H} {w : World} {base : Nat} {spare : Nat → Bool} {held : Bool}
theorem open_u64l {A : Option Addr} {len cap : Nat} {d : DataW H} {p : List MemPlace} (h : DataW.Trod enc Try.prog w base spare held 82 (.slice A len cap) d p) :
    ∃ l : List Nat, l.length = len ∧ Row w A (l.map uv) ∧ l.length ≤ maxLen ∧ (A = none → cap = 0) ∧ ∀ q ∈ l, q ≤ 18446744073709551615 := by
  obtain ⟨l, h1, h2, h3⟩ := open_rows (f := fun x : Nat => [uv x]) (m := 1) (Wf := fun q => q ≤ 18446744073709551615) Try.underlying82 (by kernel_rfl) (by omega) (fun _ => rfl) (fun n cs y h => by
    obtain ⟨a, rfl, _, wa⟩ := DataW.trod_int Try.underlying33 h
    obtain ⟨n, rfl, hn⟩ := nat_of wa
    exact ⟨n, rfl, hn⟩) h
  rw [flat_one] at h2
  exact ⟨l, h1, h2, h3⟩
theorem call_fields : ∃ f0 f1 f2 f3, Try.prog.underlying 93 = some (.struct #[f0, f1, f2, f3]) ∧ (f0.type = 3 ∧ f1.type = 3 ∧ f2.type = 33 ∧ f3.type = 4) ∧ (f0.offset = 0 ∧ f1.offset = 1 ∧ f2.offset = 2 ∧ f3.offset = 3) :=
  ⟨(Try.prog.fieldsOf 93)[0]!, (Try.prog.fieldsOf 93)[1]!, (Try.prog.fieldsOf 93)[2]!, (Try.prog.fieldsOf 93)[3]!, by kernel_rfl, ⟨by kernel_rfl, by kernel_rfl, by kernel_rfl, by kernel_rfl⟩, by kernel_rfl, by kernel_rfl, by kernel_rfl, by kernel_rfl⟩
set_option maxRecDepth 100000 in
theorem open_call {n : Nat} {cs : List Value} {y : DataW H × List MemPlace} (h : DataW.trod enc Try.prog w base spare held n 93 cs = some y) : ∃ x : CL, cs = clc x ∧ x.wait ≤ 18446744073709551615 := by
  obtain ⟨f0, f1, f2, f3, hs, ⟨t0, t1, t2, t3⟩, o0, o1, o2, o3⟩ : ∃ f0 f1 f2 f3, Try.prog.underlying 93 = some (.struct #[f0, f1, f2, f3]) ∧ (f0.type = 3 ∧ f1.type = 3 ∧ f2.type = 33 ∧ f3.type = 4) ∧ (f0.offset = 0 ∧ f1.offset = 1 ∧ f2.offset = 2 ∧ f3.offset = 3) := call_fields
  obtain ⟨xs, k, _, _, hl, hlen, hf⟩ := DataW.trod_struct hs h
  have hc : Try.prog.cellsOf 93 = 4 := by kernel_rfl
  have hi : Try.prog.cellsOf 3 = 1 := by kernel_rfl
  have hu : Try.prog.cellsOf 33 = 1 := by kernel_rfl
  have hb : Try.prog.cellsOf 4 = 1 := by kernel_rfl
  rw [hc] at hl
  match xs, hlen, cs, hl with
  | [x0, x1, x2, x3], _, [c0, c1, c2, c3], _ =>
    have g0 := hf 0 f0 rfl
    have g1 := hf 1 f1 rfl
    have g2 := hf 2 f2 rfl
    have g3 := hf 3 f3 rfl
    rw [t0, o0, hi] at g0
    rw [t1, o1, hi] at g1
    rw [t2, o2, hu] at g2
    rw [t3, o3, hb] at g3
    simp at g0 g1 g2 g3
    obtain ⟨a0, e0, _, _⟩ := DataW.trod_int Try.underlying3 g0
    obtain ⟨a1, e1, _, _⟩ := DataW.trod_int Try.underlying3 g1
    obtain ⟨a2, e2, _, w2⟩ := DataW.trod_int Try.underlying33 g2
    obtain ⟨a3, e3, _⟩ := DataW.trod_bool Try.underlying4 g3
    obtain ⟨n2, rfl, hn2⟩ := nat_of w2
    simp at e0 e1 e2 e3
    subst e0 e1 e2 e3
    exact ⟨⟨a0, a1, n2, a3⟩, rfl, hn2⟩
theorem open_calls {A : Option Addr} {len cap : Nat} {d : DataW H} {p : List MemPlace} (h : DataW.Trod enc Try.prog w base spare held 83 (.slice A len cap) d p) :
    ∃ l : List CL, l.length = len ∧ Row w A (clcs l) ∧ l.length ≤ maxLen ∧ (A = none → cap = 0) ∧ ∀ q ∈ l, q.wait ≤ 18446744073709551615 :=
  open_rows (f := clc) Try.underlying83 (by kernel_rfl) (by omega) clc_len (fun _ _ _ h => open_call h) h
end
end Go.Proofs.Ytdocdgghphhdpaa

