/- From the shell's word for a slice of integers that came in to 'Row'. -/
import Derived.Test.YtdocdgghphhdpaaBase
import Derived.Test.YtdocdgghphhdpaaMgDeviceAccPath0
import Derived.Test.YtdocdgghphhdpaaProg
import Derived.Deep.Slices
import Derived.ChangeSame
namespace Go.Proofs.Ytdocdgghphhdpaa
open Go.RowKit
theorem spot_of_cell {w : World} {x : Addr} {v : Value} (h : w.cell? x = some v) : x = ⟨x.block, x.off, none⟩ := by
  obtain ⟨b, o, s⟩ := x
  cases s with
  | none => rfl
  | some s =>
    unfold World.cell? at h
    split at h
    · simp at h
    · cases h
theorem add_at (b o i : Nat) : (⟨b, o, none⟩ : Addr).add i = ⟨b, o + i, none⟩ := by
  unfold Addr.add
  split
  · rename_i h; subst h; rfl
  · rfl
theorem isRow_row {k : IntKind} {w : World} {a : Option Addr} {len cap : Nat} {zs : List Int} (h : (a = none ∧ len = 0 ∧ cap = 0 ∧ zs = []) ∨
    ∃ x, a = some x ∧ len ≤ cap ∧ cap ≤ maxLen ∧ zs.length = cap ∧ (∀ i, i < zs.length → w.cell? (x.add i) = some (.int k (zs.getD i 0))) ∧ ∀ n ∈ zs, (Lit.int k n).wf = true) :
    ∃ l : List Int, l.length = len ∧ Row w a (l.map (Value.int k)) ∧ l.length ≤ maxLen ∧ (a = none → cap = 0) ∧ ∀ n ∈ l, (Lit.int k n).wf = true := by
  rcases h with ⟨rfl, rfl, rfl, rfl⟩ | ⟨x, rfl, hl, hm, hz, hc, hw⟩
  · exact ⟨[], rfl, Row.nil _ _, by simp, fun _ => rfl, (fun n hn => by cases hn)⟩
  · have hlen : (zs.take len).length = len := by rw [List.length_take, hz]; omega
    refine ⟨zs.take len, hlen, ?_, by omega, (fun e => by cases e), fun n hn => hw n (List.mem_of_mem_take hn)⟩
    intro h0
    rw [List.length_map, hlen] at h0
    have hx := hc 0 (by omega)
    have hx0 : x.add 0 = x := by simp [Addr.add]
    rw [hx0] at hx
    have hsp := spot_of_cell hx
    refine ⟨x.block, x.off, by rw [← hsp], fun i u hi => ?_⟩
    rw [List.getElem?_map] at hi
    obtain ⟨n, hn, rfl⟩ := Option.map_eq_some_iff.1 hi
    rw [List.getElem?_take] at hn
    split at hn
    · have hi' : i < zs.length := (List.getElem?_eq_some_iff.1 hn).1
      have := hc i hi'
      rw [hsp, add_at] at this
      rw [this, List.getD_eq_getElem?_getD, hn]
      rfl
    · cases hn
end Go.Proofs.Ytdocdgghphhdpaa

/- Arguments that came in, opened: slices whose elements take m cells each. -/
namespace Go.Proofs.Ytdocdgghphhdpaa
open Go.RowKit Go.ChangeShapes Go.WideShapes Go.Deep

section
variable {H : Type} {enc : TypeId × Value → H} {P : Program} {w : World} {base : Nat} {spare : Nat → Bool} {held : Bool}
/-- A slice whose elements' cells are told by f. -/
theorem open_rows {α : Type} {f : α → List Value} {m : Nat} {Wf : α → Prop} {t e : TypeId} (ht : P.underlying t = some (.slice e)) (hC : P.cellsOf e = m) (hm : 0 < m) (hf : ∀ a, (f a).length = m)
    (hop : ∀ n cs y, DataW.trod enc P w base spare held n e cs = some y → ∃ a, cs = f a ∧ Wf a) {A : Option Addr} {len cap : Nat} {d : DataW H} {p : List MemPlace} (h : DataW.Trod enc P w base spare held t (.slice A len cap) d p) :
    ∃ l : List α, l.length = len ∧ Row w A (l.flatMap f) ∧ l.length ≤ maxLen ∧ (A = none → cap = 0) ∧ ∀ a ∈ l, Wf a := by
  obtain ⟨fuel, h⟩ := h
  rcases open_slice ht h with ⟨hcs, _⟩ | ⟨a, len', cap', k, n, D, Pl, hcs, _, hl, hml, hk, _, hi⟩
  · simp [Value.cells] at hcs
    obtain ⟨rfl, rfl, rfl⟩ := hcs
    exact ⟨[], rfl, Row.nil _ _, by simp, fun _ => rfl, by simp⟩
  · simp [Value.cells] at hcs
    obtain ⟨rfl, rfl, rfl⟩ := hcs
    have hlk : len ≤ k := by rw [hk]; split <;> omega
    have hel : ∀ i, ∃ x : List Value × Option α, i < len → (∃ y, x.2 = some y ∧ Wf y ∧ ∀ j u, (f y)[j]? = some u → w.cell? (a.add (i * m + j)) = some u) := fun i => by
      by_cases hil : i < len
      · obtain ⟨cs', hc, ht'⟩ := hi i (by omega)
        obtain ⟨y, rfl, hy⟩ := hop _ _ _ ht'
        obtain ⟨_, hcl, hat⟩ := World.cells?_some hc
        rw [hC] at hat
        refine ⟨([], some y), fun _ => ⟨y, rfl, hy, fun j u hu => ?_⟩⟩
        have hj : j < m := by
          have := (List.getElem?_eq_some_iff.1 hu).1
          rwa [hf] at this
        have := hat j hj
        rw [hu, Go.Deep.add_add] at this
        exact this
      · exact ⟨([], none), fun h => absurd h hil⟩
    have hx : ∀ n, n ≤ len → ∃ l : List α, l.length = n ∧ (∀ y ∈ l, Wf y) ∧ ∀ i y, l[i]? = some y → ∀ j u, (f y)[j]? = some u → w.cell? (a.add (i * m + j)) = some u := fun n => by
      induction n with
      | zero => exact fun _ => ⟨[], rfl, by simp, fun i y h => by simp at h⟩
      | succ n ih =>
        intro hn
        obtain ⟨l, h1, h2, h3⟩ := ih (by omega)
        obtain ⟨x, hx⟩ := hel n
        obtain ⟨y, _, hy1, hy2⟩ := hx (by omega)
        refine ⟨l ++ [y], by simp [h1], fun z hz => ?_, fun i z hz => ?_⟩
        · rcases List.mem_append.1 hz with h | h
          · exact h2 z h
          · rw [List.mem_singleton.1 h]; exact hy1
        · by_cases hil : i < l.length
          · rw [List.getElem?_append_left hil] at hz
            exact h3 i z hz
          · rw [List.getElem?_append_right (by omega)] at hz
            have hi0 : i - l.length = 0 := by
              have := (List.getElem?_eq_some_iff.1 hz).1
              simp at this
              omega
            rw [hi0] at hz
            injection hz with hz
            subst hz
            obtain rfl : i = n := by omega
            exact hy2
    obtain ⟨l, h1, h2, h3⟩ := hx len (Nat.le_refl _)
    refine ⟨l, h1, fun h0 => ?_, by omega, (fun e => by cases e), h2⟩
    rw [flat_length hf] at h0
    have hl0 : 0 < l.length := Nat.pos_of_mul_pos_right h0
    have hg : ∀ q u, (l.flatMap f)[q]? = some u → w.cell? (a.add q) = some u := fun q u hu => by
      have hq : q < l.length * m := by
        have := (List.getElem?_eq_some_iff.1 hu).1
        rwa [flat_length hf] at this
      have hqm : q / m < l.length := Nat.div_lt_of_lt_mul (by rw [Nat.mul_comm]; exact hq)
      obtain ⟨y, hy⟩ : ∃ y, l[q / m]? = some y := ⟨_, List.getElem?_eq_getElem hqm⟩
      have hd : q / m * m + q % m = q := by rw [Nat.mul_comm]; exact Nat.div_add_mod q m
      have := flat_get hf hy (Nat.mod_lt q hm)
      rw [hd, hu] at this
      have h4 := h3 _ y hy (q % m) u this.symm
      rwa [hd] at h4
    have hfirst : ∃ u, (l.flatMap f)[0]? = some u := ⟨_, List.getElem?_eq_getElem (by rw [flat_length hf]; exact h0)⟩
    obtain ⟨u0, hu0⟩ := hfirst
    have hx := hg 0 u0 hu0
    have hx0 : a.add 0 = a := by simp [Addr.add]
    rw [hx0] at hx
    have hsp := spot_of_cell hx
    refine ⟨a.block, a.off, by rw [← hsp], fun i u hi => ?_⟩
    have := hg i u hi
    rw [hsp, add_at] at this
    exact this
end
section
variable {H : Type} {enc : TypeId × Value → H} {w : World} {base : Nat} {spare : Nat → Bool} {held : Bool}
/-- A number that fits into an int. -/
def Fits (x : Int) : Prop := -9223372036854775808 ≤ x ∧ x ≤ 9223372036854775807
theorem fits_of {x : Int} (h : (Lit.int .i64 x).wf = true) : Fits x := by
  simp only [Lit.wf, Bool.and_eq_true, decide_eq_true_eq] at h
  exact h
end
end Go.Proofs.Ytdocdgghphhdpaa

