/- From the shell's word for a slice of integers that came in to 'Row'. -/
import Derived.Test.YtdocdgghphhdpaaBase
import Derived.Test.YtdocdgghphhdpaaMgSuspFail0
import Derived.Test.YtdocdgghphhdpaaProg
import Derived.Deep.Slices
import Derived.ChangeSame
import Derived.Test.YtdocdgghphhdpaaMgSuspFail6
import Derived.Laws.IdiomArrays
import Derived.OpenShut
namespace Go.Proofs.Ytdocdgghphhdpaa
open Go.RowKit
theorem spot_of_cell {w : World} {x : Addr} {v : Value} (h : w.cell? x = some v) : x = ⟨x.block, x.off, none⟩ := by
  obtain ⟨b, o, s⟩ := x
  cases s with
  | none => rfl
  | some s =>
    unfold World.cell? at h
    split at h
    · simp at h
    · cases h
theorem add_at (b o i : Nat) : (⟨b, o, none⟩ : Addr).add i = ⟨b, o + i, none⟩ := by
  unfold Addr.add
  split
  · rename_i h; subst h; rfl
  · rfl
theorem isRow_row {k : IntKind} {w : World} {a : Option Addr} {len cap : Nat} {zs : List Int} (h : (a = none ∧ len = 0 ∧ cap = 0 ∧ zs = []) ∨
    ∃ x, a = some x ∧ len ≤ cap ∧ cap ≤ maxLen ∧ zs.length = cap ∧ (∀ i, i < zs.length → w.cell? (x.add i) = some (.int k (zs.getD i 0))) ∧ ∀ n ∈ zs, (Lit.int k n).wf = true) :
    ∃ l : List Int, l.length = len ∧ Row w a (l.map (Value.int k)) ∧ l.length ≤ maxLen ∧ (a = none → cap = 0) ∧ ∀ n ∈ l, (Lit.int k n).wf = true := by
  rcases h with ⟨rfl, rfl, rfl, rfl⟩ | ⟨x, rfl, hl, hm, hz, hc, hw⟩
  · exact ⟨[], rfl, Row.nil _ _, by simp, fun _ => rfl, (fun n hn => by cases hn)⟩
  · have hlen : (zs.take len).length = len := by rw [List.length_take, hz]; omega
    refine ⟨zs.take len, hlen, ?_, by omega, (fun e => by cases e), fun n hn => hw n (List.mem_of_mem_take hn)⟩
    intro h0
    rw [List.length_map, hlen] at h0
    have hx := hc 0 (by omega)
    have hx0 : x.add 0 = x := by simp [Addr.add]
    rw [hx0] at hx
    have hsp := spot_of_cell hx
    refine ⟨x.block, x.off, by rw [← hsp], fun i u hi => ?_⟩
    rw [List.getElem?_map] at hi
    obtain ⟨n, hn, rfl⟩ := Option.map_eq_some_iff.1 hi
    rw [List.getElem?_take] at hn
    split at hn
    · have hi' : i < zs.length := (List.getElem?_eq_some_iff.1 hn).1
      have := hc i hi'
      rw [hsp, add_at] at this
      rw [this, List.getD_eq_getElem?_getD, hn]
      rfl
    · cases hn
end Go.Proofs.Ytdocdgghphhdpaa

/- Arguments that came in, opened: slices whose elements take m cells each. -/
namespace Go.Proofs.Ytdocdgghphhdpaa
open Go.RowKit Go.ChangeShapes Go.WideShapes Go.Deep

section
variable {H : Type} {enc : TypeId × Value → H} {P : Program} {w : World} {base : Nat} {spare : Nat → Bool} {held : Bool}
/-- A slice whose elements' cells are told by f. -/
theorem open_rows {α : Type} {f : α → List Value} {m : Nat} {Wf : α → Prop} {t e : TypeId} (ht : P.underlying t = some (.slice e)) (hC : P.cellsOf e = m) (hm : 0 < m) (hf : ∀ a, (f a).length = m)
    (hop : ∀ n cs y, DataW.trod enc P w base spare held n e cs = some y → ∃ a, cs = f a ∧ Wf a) {A : Option Addr} {len cap : Nat} {d : DataW H} {p : List MemPlace} (h : DataW.Trod enc P w base spare held t (.slice A len cap) d p) :
    ∃ l : List α, l.length = len ∧ Row w A (l.flatMap f) ∧ l.length ≤ maxLen ∧ (A = none → cap = 0) ∧ ∀ a ∈ l, Wf a := by
  obtain ⟨fuel, h⟩ := h
  rcases open_slice ht h with ⟨hcs, _⟩ | ⟨a, len', cap', k, n, D, Pl, hcs, _, hl, hml, hk, _, hi⟩
  · simp [Value.cells] at hcs
    obtain ⟨rfl, rfl, rfl⟩ := hcs
    exact ⟨[], rfl, Row.nil _ _, by simp, fun _ => rfl, by simp⟩
  · simp [Value.cells] at hcs
    obtain ⟨rfl, rfl, rfl⟩ := hcs
    have hlk : len ≤ k := by rw [hk]; split <;> omega
    have hel : ∀ i, ∃ x : List Value × Option α, i < len → (∃ y, x.2 = some y ∧ Wf y ∧ ∀ j u, (f y)[j]? = some u → w.cell? (a.add (i * m + j)) = some u) := fun i => by
      by_cases hil : i < len
      · obtain ⟨cs', hc, ht'⟩ := hi i (by omega)
        obtain ⟨y, rfl, hy⟩ := hop _ _ _ ht'
        obtain ⟨_, hcl, hat⟩ := World.cells?_some hc
        rw [hC] at hat
        refine ⟨([], some y), fun _ => ⟨y, rfl, hy, fun j u hu => ?_⟩⟩
        have hj : j < m := by
          have := (List.getElem?_eq_some_iff.1 hu).1
          rwa [hf] at this
        have := hat j hj
        rw [hu, Go.Deep.add_add] at this
        exact this
      · exact ⟨([], none), fun h => absurd h hil⟩
    have hx : ∀ n, n ≤ len → ∃ l : List α, l.length = n ∧ (∀ y ∈ l, Wf y) ∧ ∀ i y, l[i]? = some y → ∀ j u, (f y)[j]? = some u → w.cell? (a.add (i * m + j)) = some u := fun n => by
      induction n with
      | zero => exact fun _ => ⟨[], rfl, by simp, fun i y h => by simp at h⟩
      | succ n ih =>
        intro hn
        obtain ⟨l, h1, h2, h3⟩ := ih (by omega)
        obtain ⟨x, hx⟩ := hel n
        obtain ⟨y, _, hy1, hy2⟩ := hx (by omega)
        refine ⟨l ++ [y], by simp [h1], fun z hz => ?_, fun i z hz => ?_⟩
        · rcases List.mem_append.1 hz with h | h
          · exact h2 z h
          · rw [List.mem_singleton.1 h]; exact hy1
        · by_cases hil : i < l.length
          · rw [List.getElem?_append_left hil] at hz
            exact h3 i z hz
          · rw [List.getElem?_append_right (by omega)] at hz
            have hi0 : i - l.length = 0 := by
              have := (List.getElem?_eq_some_iff.1 hz).1
              simp at this
              omega
            rw [hi0] at hz
            injection hz with hz
            subst hz
            obtain rfl : i = n := by omega
            exact hy2
    obtain ⟨l, h1, h2, h3⟩ := hx len (Nat.le_refl _)
    refine ⟨l, h1, fun h0 => ?_, by omega, (fun e => by cases e), h2⟩
    rw [flat_length hf] at h0
    have hl0 : 0 < l.length := Nat.pos_of_mul_pos_right h0
    have hg : ∀ q u, (l.flatMap f)[q]? = some u → w.cell? (a.add q) = some u := fun q u hu => by
      have hq : q < l.length * m := by
        have := (List.getElem?_eq_some_iff.1 hu).1
        rwa [flat_length hf] at this
      have hqm : q / m < l.length := Nat.div_lt_of_lt_mul (by rw [Nat.mul_comm]; exact hq)
      obtain ⟨y, hy⟩ : ∃ y, l[q / m]? = some y := ⟨_, List.getElem?_eq_getElem hqm⟩
      have hd : q / m * m + q % m = q := by rw [Nat.mul_comm]; exact Nat.div_add_mod q m
      have := flat_get hf hy (Nat.mod_lt q hm)
      rw [hd, hu] at this
      have h4 := h3 _ y hy (q % m) u this.symm
      rwa [hd] at h4
    have hfirst : ∃ u, (l.flatMap f)[0]? = some u := ⟨_, List.getElem?_eq_getElem (by rw [flat_length hf]; exact h0)⟩
    obtain ⟨u0, hu0⟩ := hfirst
    have hx := hg 0 u0 hu0
    have hx0 : a.add 0 = a := by simp [Addr.add]
    rw [hx0] at hx
    have hsp := spot_of_cell hx
    refine ⟨a.block, a.off, by rw [← hsp], fun i u hi => ?_⟩
    have := hg i u hi
    rw [hsp, add_at] at this
    exact this
end
section
variable {H : Type} {enc : TypeId × Value → H} {w : World} {base : Nat} {spare : Nat → Bool} {held : Bool}
/-- A number that fits into an int. -/
def Fits (x : Int) : Prop := -9223372036854775808 ≤ x ∧ x ≤ 9223372036854775807
theorem fits_of {x : Int} (h : (Lit.int .i64 x).wf = true) : Fits x := by
  simp only [Lit.wf, Bool.and_eq_true, decide_eq_true_eq] at h
  exact h
end
end Go.Proofs.Ytdocdgghphhdpaa

/- Arguments that came in, opened: power devices. -/
namespace Go.Proofs.Ytdocdgghphhdpaa
open Go.RowKit Go.ChangeShapes Go.WideShapes Go.Deep
theorem flat_one {α β : Type} (g : α → β) (l : List α) : l.flatMap (fun x => [g x]) = l.map g := by
  induction l with
  | nil => rfl
  | cons a l ih => simp [ih]
section
variable {H : Type} {enc : TypeId × Value → H} {w : World} {base : Nat} {spare : Nat → Bool} {held : Bool}
theorem open_intl {A : Option Addr} {len cap : Nat} {d : DataW H} {p : List MemPlace} (h : DataW.Trod enc Try.prog w base spare held 34 (.slice A len cap) d p) :
    ∃ l : List Int, l.length = len ∧ Row w A (l.map (Value.int .i64)) ∧ l.length ≤ maxLen ∧ (A = none → cap = 0) ∧ ∀ q ∈ l, Fits q := by
  obtain ⟨l, h1, h2, h3⟩ := open_rows (f := fun x : Int => [Value.int .i64 x]) (m := 1) (Wf := Fits) Try.underlying34 (by kernel_rfl) (by omega) (fun _ => rfl) (fun n cs y h => by
    obtain ⟨a, rfl, _, wa⟩ := DataW.trod_int Try.underlying3 h
    exact ⟨a, rfl, fits_of wa⟩) h
  rw [flat_one] at h2
  exact ⟨l, h1, h2, h3⟩
theorem open_intc {n : Nat} {c : Value} {y : DataW H × List MemPlace} (h : DataW.trod enc Try.prog w base spare held n 34 [c] = some y) :
    ∃ A cp, ∃ l : List Int, c = .slice A l.length cp ∧ Row w A (l.map (Value.int .i64)) ∧ l.length ≤ maxLen := by
  obtain ⟨A, len, cap, rfl⟩ : ∃ A len cap, c = .slice A len cap := by
    rcases open_slice Try.underlying34 h with ⟨hcs, _⟩ | ⟨a, len', cap', _, _, _, _, hcs, _⟩
    · simp at hcs; exact ⟨_, _, _, hcs⟩
    · simp at hcs; exact ⟨_, _, _, hcs⟩
  obtain ⟨l, rfl, hr, hm, _⟩ := open_intl (d := y.1) (p := y.2) ⟨n, h⟩
  exact ⟨A, cap, l, rfl, hr, hm⟩
theorem pd_fields : ∃ f0 f1 f2 f3 f4, Try.prog.underlying 46 = some (.struct #[f0, f1, f2, f3, f4]) ∧ (f0.type = 3 ∧ f1.type = 43 ∧ f2.type = 44 ∧ f3.type = 3 ∧ f4.type = 3) ∧ (f0.offset = 0 ∧ f1.offset = 1 ∧ f2.offset = 5 ∧ f3.offset = 11 ∧ f4.offset = 12) :=
  ⟨(Try.prog.fieldsOf 46)[0]!, (Try.prog.fieldsOf 46)[1]!, (Try.prog.fieldsOf 46)[2]!, (Try.prog.fieldsOf 46)[3]!, (Try.prog.fieldsOf 46)[4]!, by kernel_rfl, ⟨by kernel_rfl, by kernel_rfl, by kernel_rfl, by kernel_rfl, by kernel_rfl⟩, by kernel_rfl, by kernel_rfl, by kernel_rfl, by kernel_rfl, by kernel_rfl⟩
def pick4 {α : Type} (a b c d e : α) (k : Nat) : α := if k = 0 then a else if k = 1 then b else if k = 2 then c else if k = 3 then d else e
def DvWf (w : World) (x : DV) : Prop := RailsAt w x.d x.rl ∧ (∀ k, (x.rl k).length ≤ maxLen) ∧ ∀ k, 4 ≤ k → x.rl k = []
set_option maxRecDepth 100000 in
theorem open_pd {n : Nat} {cs : List Value} {y : DataW H × List MemPlace} (h : DataW.trod enc Try.prog w base spare held n 46 cs = some y) : ∃ x : DV, cs = dvc x ∧ DvWf w x := by
  obtain ⟨f0, f1, f2, f3, f4, hs, ⟨t0, t1, t2, t3, t4⟩, o0, o1, o2, o3, o4⟩ : ∃ f0 f1 f2 f3 f4, Try.prog.underlying 46 = some (.struct #[f0, f1, f2, f3, f4]) ∧ (f0.type = 3 ∧ f1.type = 43 ∧ f2.type = 44 ∧ f3.type = 3 ∧ f4.type = 3) ∧ (f0.offset = 0 ∧ f1.offset = 1 ∧ f2.offset = 5 ∧ f3.offset = 11 ∧ f4.offset = 12) := pd_fields
  obtain ⟨xs, k, _, _, hl, hlen, hf⟩ := DataW.trod_struct hs h
  have hc : Try.prog.cellsOf 46 = 13 := by kernel_rfl
  have hi : Try.prog.cellsOf 3 = 1 := by kernel_rfl
  have h4 : Try.prog.cellsOf 43 = 4 := by kernel_rfl
  have h6 : Try.prog.cellsOf 44 = 6 := by kernel_rfl
  have hsl : Try.prog.cellsOf 34 = 1 := by kernel_rfl
  rw [hc] at hl
  match xs, hlen, cs, hl with
  | [x0, x1, x2, x3, x4], _, [c0, c1, c2, c3, c4, c5, c6, c7, c8, c9, c10, c11, c12], _ =>
    have g0 := hf 0 f0 rfl
    have g1 := hf 1 f1 rfl
    have g2 := hf 2 f2 rfl
    have g3 := hf 3 f3 rfl
    have g4 := hf 4 f4 rfl
    rw [t0, o0, hi] at g0
    rw [t1, o1, h4] at g1
    rw [t2, o2, h6] at g2
    rw [t3, o3, hi] at g3
    rw [t4, o4, hi] at g4
    simp at g0 g1 g2 g3 g4
    obtain ⟨a0, e0, _, _⟩ := DataW.trod_int Try.underlying3 g0
    obtain ⟨a3, e3, _, _⟩ := DataW.trod_int Try.underlying3 g3
    obtain ⟨a4, e4, _, _⟩ := DataW.trod_int Try.underlying3 g4
    obtain ⟨y0, y1, y2, y3, n', _, s0, s1, s2, s3⟩ := trod_array4 Try.underlying43 hsl g1
    obtain ⟨zs, m, _, _, _, hzl, hz⟩ := DataW.trod_array Try.underlying44 g2
    rw [hi] at hz
    match zs, hzl with
    | [z0, z1, z2, z3, z4, z5], _ =>
      have q0 := hz 0 (by omega)
      have q1 := hz 1 (by omega)
      have q2 := hz 2 (by omega)
      have q3 := hz 3 (by omega)
      have q4 := hz 4 (by omega)
      have q5 := hz 5 (by omega)
      simp at q0 q1 q2 q3 q4 q5
      obtain ⟨b0, k0, _, _⟩ := DataW.trod_int Try.underlying3 q0
      obtain ⟨b1, k1, _, _⟩ := DataW.trod_int Try.underlying3 q1
      obtain ⟨b2, k2, _, _⟩ := DataW.trod_int Try.underlying3 q2
      obtain ⟨b3, k3, _, _⟩ := DataW.trod_int Try.underlying3 q3
      obtain ⟨b4, k4, _, _⟩ := DataW.trod_int Try.underlying3 q4
      obtain ⟨b5, k5, _, _⟩ := DataW.trod_int Try.underlying3 q5
      simp at e0 e3 e4 k0 k1 k2 k3 k4 k5
      subst e0 e3 e4 k0 k1 k2 k3 k4 k5
      obtain ⟨A0, p0, l0, rfl, r0, m0⟩ := open_intc s0
      obtain ⟨A1, p1, l1, rfl, r1, m1⟩ := open_intc s1
      obtain ⟨A2, p2, l2, rfl, r2, m2⟩ := open_intc s2
      obtain ⟨A3, p3, l3, rfl, r3, m3⟩ := open_intc s3
      refine ⟨⟨⟨a0, pick4 (.slice A0 l0.length p0) (.slice A1 l1.length p1) (.slice A2 l2.length p2) (.slice A3 l3.length p3) (.slice none 0 0), fun k => ([b0, b1, b2, b3, b4, b5] : List Int).getD k 0, a3, a4⟩, pick4 l0 l1 l2 l3 []⟩, rfl, ?_, ?_, ?_⟩
      · intro k hk
        have : k = 0 ∨ k = 1 ∨ k = 2 ∨ k = 3 := by omega
        rcases this with rfl | rfl | rfl | rfl
        · exact ⟨A0, p0, rfl, r0⟩
        · exact ⟨A1, p1, rfl, r1⟩
        · exact ⟨A2, p2, rfl, r2⟩
        · exact ⟨A3, p3, rfl, r3⟩
      · intro k
        show (pick4 l0 l1 l2 l3 [] k).length ≤ maxLen
        unfold pick4
        split
        · exact m0
        · split
          · exact m1
          · split
            · exact m2
            · split
              · exact m3
              · simp
      · intro k hk
        show pick4 l0 l1 l2 l3 [] k = []
        unfold pick4
        rw [if_neg (by omega), if_neg (by omega), if_neg (by omega), if_neg (by omega)]
set_option maxRecDepth 100000 in
theorem open_pds {A : Option Addr} {len cap : Nat} {d : DataW H} {p : List MemPlace} (h : DataW.Trod enc Try.prog w base spare held 22 (.slice A len cap) d p) :
    ∃ l : List DV, l.length = len ∧ Row w A (dvcs l) ∧ l.length ≤ maxLen ∧ (A = none → cap = 0) ∧ ∀ q ∈ l, DvWf w q :=
  open_rows (f := dvc) Try.underlying22 (by kernel_rfl) (by omega) dvc_len (fun _ _ _ h => open_pd h) h
set_option maxRecDepth 100000 in
theorem open_pdv {r : Reach} {b0 : Nat} {v : Value} {d : DataW H} {p : List MemPlace} (hv : Value.okWide Try.prog w r b0 46 v) (h : DataW.Trod enc Try.prog w base spare held 46 v d p) :
    ∃ x : DV, v = .agg x.d.cells ∧ DvWf w x ∧ True := by
  obtain ⟨f0, f1, f2, f3, f4, hs, _⟩ := pd_fields
  obtain ⟨cs, rfl, hsz⟩ := okWide_struct hs hv
  obtain ⟨n, h⟩ := h
  obtain ⟨x, hx, hw⟩ := open_pd h
  refine ⟨x, ?_, hw, trivial⟩
  have : cs.toList = x.d.cells.toList := by simpa [Value.cells, dvc] using hx
  rw [Array.toList_inj.1 this]
end
end Go.Proofs.Ytdocdgghphhdpaa

