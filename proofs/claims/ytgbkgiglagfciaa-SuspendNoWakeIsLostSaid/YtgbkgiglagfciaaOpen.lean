/- Arguments that came in, opened: slices whose elements take m cells each. -/
import Derived.Test.YtgbkgiglagfciaaFlat
import Derived.Test.YtgbkgiglagfciaaRowOf
import Derived.Test.YtgbkgiglagfciaaProg
import Derived.Deep.Slices
import Derived.ChangeSame
namespace Go.Proofs.Ytgbkgiglagfciaa
open Go.RowKit Go.ChangeShapes Go.WideShapes Go.Deep

section
variable {H : Type} {enc : TypeId × Value → H} {P : Program} {w : World} {base : Nat} {spare : Nat → Bool} {held : Bool}
/-- A slice whose elements' cells are told by f. -/
theorem open_rows {α : Type} {f : α → List Value} {m : Nat} {Wf : α → Prop} {t e : TypeId} (ht : P.underlying t = some (.slice e)) (hC : P.cellsOf e = m) (hm : 0 < m) (hf : ∀ a, (f a).length = m)
    (hop : ∀ n cs y, DataW.trod enc P w base spare held n e cs = some y → ∃ a, cs = f a ∧ Wf a) {A : Option Addr} {len cap : Nat} {d : DataW H} {p : List MemPlace} (h : DataW.Trod enc P w base spare held t (.slice A len cap) d p) :
    ∃ l : List α, l.length = len ∧ Row w A (l.flatMap f) ∧ l.length ≤ maxLen ∧ (A = none → cap = 0) ∧ ∀ a ∈ l, Wf a := by
  obtain ⟨fuel, h⟩ := h
  rcases open_slice ht h with ⟨hcs, _⟩ | ⟨a, len', cap', k, n, D, Pl, hcs, _, hl, hml, hk, _, hi⟩
  · simp [Value.cells] at hcs
    obtain ⟨rfl, rfl, rfl⟩ := hcs
    exact ⟨[], rfl, Row.nil _ _, by simp, fun _ => rfl, by simp⟩
  · simp [Value.cells] at hcs
    obtain ⟨rfl, rfl, rfl⟩ := hcs
    have hlk : len ≤ k := by rw [hk]; split <;> omega
    have hel : ∀ i, ∃ x : List Value × Option α, i < len → (∃ y, x.2 = some y ∧ Wf y ∧ ∀ j u, (f y)[j]? = some u → w.cell? (a.add (i * m + j)) = some u) := fun i => by
      by_cases hil : i < len
      · obtain ⟨cs', hc, ht'⟩ := hi i (by omega)
        obtain ⟨y, rfl, hy⟩ := hop _ _ _ ht'
        obtain ⟨_, hcl, hat⟩ := World.cells?_some hc
        rw [hC] at hat
        refine ⟨([], some y), fun _ => ⟨y, rfl, hy, fun j u hu => ?_⟩⟩
        have hj : j < m := by
          have := (List.getElem?_eq_some_iff.1 hu).1
          rwa [hf] at this
        have := hat j hj
        rw [hu, Go.Deep.add_add] at this
        exact this
      · exact ⟨([], none), fun h => absurd h hil⟩
    have hx : ∀ n, n ≤ len → ∃ l : List α, l.length = n ∧ (∀ y ∈ l, Wf y) ∧ ∀ i y, l[i]? = some y → ∀ j u, (f y)[j]? = some u → w.cell? (a.add (i * m + j)) = some u := fun n => by
      induction n with
      | zero => exact fun _ => ⟨[], rfl, by simp, fun i y h => by simp at h⟩
      | succ n ih =>
        intro hn
        obtain ⟨l, h1, h2, h3⟩ := ih (by omega)
        obtain ⟨x, hx⟩ := hel n
        obtain ⟨y, _, hy1, hy2⟩ := hx (by omega)
        refine ⟨l ++ [y], by simp [h1], fun z hz => ?_, fun i z hz => ?_⟩
        · rcases List.mem_append.1 hz with h | h
          · exact h2 z h
          · rw [List.mem_singleton.1 h]; exact hy1
        · by_cases hil : i < l.length
          · rw [List.getElem?_append_left hil] at hz
            exact h3 i z hz
          · rw [List.getElem?_append_right (by omega)] at hz
            have hi0 : i - l.length = 0 := by
              have := (List.getElem?_eq_some_iff.1 hz).1
              simp at this
              omega
            rw [hi0] at hz
            injection hz with hz
            subst hz
            obtain rfl : i = n := by omega
            exact hy2
    obtain ⟨l, h1, h2, h3⟩ := hx len (Nat.le_refl _)
    refine ⟨l, h1, fun h0 => ?_, by omega, (fun e => by cases e), h2⟩
    rw [flat_length hf] at h0
    have hl0 : 0 < l.length := Nat.pos_of_mul_pos_right h0
    have hg : ∀ q u, (l.flatMap f)[q]? = some u → w.cell? (a.add q) = some u := fun q u hu => by
      have hq : q < l.length * m := by
        have := (List.getElem?_eq_some_iff.1 hu).1
        rwa [flat_length hf] at this
      have hqm : q / m < l.length := Nat.div_lt_of_lt_mul (by rw [Nat.mul_comm]; exact hq)
      obtain ⟨y, hy⟩ : ∃ y, l[q / m]? = some y := ⟨_, List.getElem?_eq_getElem hqm⟩
      have hd : q / m * m + q % m = q := by rw [Nat.mul_comm]; exact Nat.div_add_mod q m
      have := flat_get hf hy (Nat.mod_lt q hm)
      rw [hd, hu] at this
      have h4 := h3 _ y hy (q % m) u this.symm
      rwa [hd] at h4
    have hfirst : ∃ u, (l.flatMap f)[0]? = some u := ⟨_, List.getElem?_eq_getElem (by rw [flat_length hf]; exact h0)⟩
    obtain ⟨u0, hu0⟩ := hfirst
    have hx := hg 0 u0 hu0
    have hx0 : a.add 0 = a := by simp [Addr.add]
    rw [hx0] at hx
    have hsp := spot_of_cell hx
    refine ⟨a.block, a.off, by rw [← hsp], fun i u hi => ?_⟩
    have := hg i u hi
    rw [hsp, add_at] at this
    exact this
end
section
variable {H : Type} {enc : TypeId × Value → H} {w : World} {base : Nat} {spare : Nat → Bool} {held : Bool}
/-- A number that fits into an int. -/
def Fits (x : Int) : Prop := -9223372036854775808 ≤ x ∧ x ≤ 9223372036854775807
theorem fits_of {x : Int} (h : (Lit.int .i64 x).wf = true) : Fits x := by
  simp only [Lit.wf, Bool.and_eq_true, decide_eq_true_eq] at h
  exact h
theorem link_fields : ∃ f0 f1, Try.prog.underlying 60 = some (.struct #[f0, f1]) ∧ f0.type = 3 ∧ f1.type = 3 ∧ f0.offset = 0 ∧ f1.offset = 1 :=
  ⟨(Try.prog.fieldsOf 60)[0]!, (Try.prog.fieldsOf 60)[1]!, by kernel_rfl, by kernel_rfl, by kernel_rfl, by kernel_rfl, by kernel_rfl⟩
theorem open_link {n : Nat} {cs : List Value} {y : DataW H × List MemPlace} (h : DataW.trod enc Try.prog w base spare held n 60 cs = some y) : ∃ p : Int × Int, cs = pc p ∧ (Fits p.1 ∧ Fits p.2) := by
  obtain ⟨f0, f1, hs, h0, h1, o0, o1⟩ : ∃ f0 f1, Try.prog.underlying 60 = some (.struct #[f0, f1]) ∧ f0.type = 3 ∧ f1.type = 3 ∧ f0.offset = 0 ∧ f1.offset = 1 := link_fields
  obtain ⟨y0, y1, k, _, hl, t0, t1⟩ := trod_struct2 hs h
  have hc : Try.prog.cellsOf 60 = 2 := by kernel_rfl
  have hi : Try.prog.cellsOf 3 = 1 := by kernel_rfl
  rw [h0, o0, hi] at t0
  rw [h1, o1, hi] at t1
  rw [hc] at hl
  obtain ⟨a, ha, _, wa⟩ := DataW.trod_int Try.underlying3 t0
  obtain ⟨b, hb, _, wb⟩ := DataW.trod_int Try.underlying3 t1
  refine ⟨(a, b), ?_, fits_of wa, fits_of wb⟩
  match cs, hl with
  | [c0, c1], _ =>
    simp at ha hb
    rw [ha, hb]
    rfl
theorem open_links {A : Option Addr} {len cap : Nat} {d : DataW H} {p : List MemPlace} (h : DataW.Trod enc Try.prog w base spare held 52 (.slice A len cap) d p) :
    ∃ l : List (Int × Int), l.length = len ∧ Row w A (pcs l) ∧ l.length ≤ maxLen ∧ (A = none → cap = 0) ∧ ∀ q ∈ l, Fits q.1 ∧ Fits q.2 :=
  open_rows (f := pc) Try.underlying52 (by kernel_rfl) (by omega) pc_len (fun _ _ _ h => open_link h) h
end
end Go.Proofs.Ytgbkgiglagfciaa
