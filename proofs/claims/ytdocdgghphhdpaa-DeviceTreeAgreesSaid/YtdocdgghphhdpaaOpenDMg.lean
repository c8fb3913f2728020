/- Arguments that came in, opened: power devices. -/
import Derived.Test.YtdocdgghphhdpaaMgDeviceTree16
import Derived.Test.YtdocdgghphhdpaaDevW10Mg
import Derived.Laws.IdiomArrays
import Derived.OpenShut
namespace Go.Proofs.Ytdocdgghphhdpaa
open Go.RowKit Go.ChangeShapes Go.WideShapes Go.Deep
theorem flat_one {α β : Type} (g : α → β) (l : List α) : l.flatMap (fun x => [g x]) = l.map g := by
  induction l with
  | nil => rfl
  | cons a l ih => simp [ih]
section
variable {H : Type} {enc : TypeId × Value → H} {w : World} {base : Nat} {spare : Nat → Bool} {held : Bool}
theorem open_intl {A : Option Addr} {len cap : Nat} {d : DataW H} {p : List MemPlace} (h : DataW.Trod enc Try.prog w base spare held 34 (.slice A len cap) d p) :
    ∃ l : List Int, l.length = len ∧ Row w A (l.map (Value.int .i64)) ∧ l.length ≤ maxLen ∧ (A = none → cap = 0) ∧ ∀ q ∈ l, Fits q := by
  obtain ⟨l, h1, h2, h3⟩ := open_rows (f := fun x : Int => [Value.int .i64 x]) (m := 1) (Wf := Fits) Try.underlying34 (by kernel_rfl) (by omega) (fun _ => rfl) (fun n cs y h => by
    obtain ⟨a, rfl, _, wa⟩ := DataW.trod_int Try.underlying3 h
    exact ⟨a, rfl, fits_of wa⟩) h
  rw [flat_one] at h2
  exact ⟨l, h1, h2, h3⟩
theorem open_intc {n : Nat} {c : Value} {y : DataW H × List MemPlace} (h : DataW.trod enc Try.prog w base spare held n 34 [c] = some y) :
    ∃ A cp, ∃ l : List Int, c = .slice A l.length cp ∧ Row w A (l.map (Value.int .i64)) ∧ l.length ≤ maxLen ∧ (A = none → cp = 0) := by
  obtain ⟨A, len, cap, rfl⟩ : ∃ A len cap, c = .slice A len cap := by
    rcases open_slice Try.underlying34 h with ⟨hcs, _⟩ | ⟨a, len', cap', _, _, _, _, hcs, _⟩
    · simp at hcs; exact ⟨_, _, _, hcs⟩
    · simp at hcs; exact ⟨_, _, _, hcs⟩
  obtain ⟨l, rfl, hr, hm, hz, _⟩ := open_intl (d := y.1) (p := y.2) ⟨n, h⟩
  exact ⟨A, cap, l, rfl, hr, hm, hz⟩
theorem pd_fields : ∃ f0 f1 f2 f3 f4, Try.prog.underlying 46 = some (.struct #[f0, f1, f2, f3, f4]) ∧ (f0.type = 3 ∧ f1.type = 43 ∧ f2.type = 44 ∧ f3.type = 3 ∧ f4.type = 3) ∧ (f0.offset = 0 ∧ f1.offset = 1 ∧ f2.offset = 5 ∧ f3.offset = 11 ∧ f4.offset = 12) :=
  ⟨(Try.prog.fieldsOf 46)[0]!, (Try.prog.fieldsOf 46)[1]!, (Try.prog.fieldsOf 46)[2]!, (Try.prog.fieldsOf 46)[3]!, (Try.prog.fieldsOf 46)[4]!, by kernel_rfl, ⟨by kernel_rfl, by kernel_rfl, by kernel_rfl, by kernel_rfl, by kernel_rfl⟩, by kernel_rfl, by kernel_rfl, by kernel_rfl, by kernel_rfl, by kernel_rfl⟩
def pick4 {α : Type} (a b c d e : α) (k : Nat) : α := if k = 0 then a else if k = 1 then b else if k = 2 then c else if k = 3 then d else e
/-- A rails' slice without memory has no capacity. -/
def NilOk (x : DV) : Prop := ∀ q, q < 4 → ∀ n c, x.d.rf q = .slice none n c → c = 0
def DvWf (w : World) (x : DV) : Prop := RailsAt w x.d x.rl ∧ (∀ k, (x.rl k).length ≤ maxLen) ∧ ∀ k, 4 ≤ k → x.rl k = []
set_option maxRecDepth 100000 in
theorem open_pd {n : Nat} {cs : List Value} {y : DataW H × List MemPlace} (h : DataW.trod enc Try.prog w base spare held n 46 cs = some y) : ∃ x : DV, cs = dvc x ∧ DvWf w x ∧ NilOk x := by
  obtain ⟨f0, f1, f2, f3, f4, hs, ⟨t0, t1, t2, t3, t4⟩, o0, o1, o2, o3, o4⟩ : ∃ f0 f1 f2 f3 f4, Try.prog.underlying 46 = some (.struct #[f0, f1, f2, f3, f4]) ∧ (f0.type = 3 ∧ f1.type = 43 ∧ f2.type = 44 ∧ f3.type = 3 ∧ f4.type = 3) ∧ (f0.offset = 0 ∧ f1.offset = 1 ∧ f2.offset = 5 ∧ f3.offset = 11 ∧ f4.offset = 12) := pd_fields
  obtain ⟨xs, k, _, _, hl, hlen, hf⟩ := DataW.trod_struct hs h
  have hc : Try.prog.cellsOf 46 = 13 := by kernel_rfl
  have hi : Try.prog.cellsOf 3 = 1 := by kernel_rfl
  have h4 : Try.prog.cellsOf 43 = 4 := by kernel_rfl
  have h6 : Try.prog.cellsOf 44 = 6 := by kernel_rfl
  have hsl : Try.prog.cellsOf 34 = 1 := by kernel_rfl
  rw [hc] at hl
  match xs, hlen, cs, hl with
  | [x0, x1, x2, x3, x4], _, [c0, c1, c2, c3, c4, c5, c6, c7, c8, c9, c10, c11, c12], _ =>
    have g0 := hf 0 f0 rfl
    have g1 := hf 1 f1 rfl
    have g2 := hf 2 f2 rfl
    have g3 := hf 3 f3 rfl
    have g4 := hf 4 f4 rfl
    rw [t0, o0, hi] at g0
    rw [t1, o1, h4] at g1
    rw [t2, o2, h6] at g2
    rw [t3, o3, hi] at g3
    rw [t4, o4, hi] at g4
    simp at g0 g1 g2 g3 g4
    obtain ⟨a0, e0, _, _⟩ := DataW.trod_int Try.underlying3 g0
    obtain ⟨a3, e3, _, _⟩ := DataW.trod_int Try.underlying3 g3
    obtain ⟨a4, e4, _, _⟩ := DataW.trod_int Try.underlying3 g4
    obtain ⟨y0, y1, y2, y3, n', _, s0, s1, s2, s3⟩ := trod_array4 Try.underlying43 hsl g1
    obtain ⟨zs, m, _, _, _, hzl, hz⟩ := DataW.trod_array Try.underlying44 g2
    rw [hi] at hz
    match zs, hzl with
    | [z0, z1, z2, z3, z4, z5], _ =>
      have q0 := hz 0 (by omega)
      have q1 := hz 1 (by omega)
      have q2 := hz 2 (by omega)
      have q3 := hz 3 (by omega)
      have q4 := hz 4 (by omega)
      have q5 := hz 5 (by omega)
      simp at q0 q1 q2 q3 q4 q5
      obtain ⟨b0, k0, _, _⟩ := DataW.trod_int Try.underlying3 q0
      obtain ⟨b1, k1, _, _⟩ := DataW.trod_int Try.underlying3 q1
      obtain ⟨b2, k2, _, _⟩ := DataW.trod_int Try.underlying3 q2
      obtain ⟨b3, k3, _, _⟩ := DataW.trod_int Try.underlying3 q3
      obtain ⟨b4, k4, _, _⟩ := DataW.trod_int Try.underlying3 q4
      obtain ⟨b5, k5, _, _⟩ := DataW.trod_int Try.underlying3 q5
      simp at e0 e3 e4 k0 k1 k2 k3 k4 k5
      subst e0 e3 e4 k0 k1 k2 k3 k4 k5
      obtain ⟨A0, p0, l0, rfl, r0, m0, z0'⟩ := open_intc s0
      obtain ⟨A1, p1, l1, rfl, r1, m1, z1'⟩ := open_intc s1
      obtain ⟨A2, p2, l2, rfl, r2, m2, z2'⟩ := open_intc s2
      obtain ⟨A3, p3, l3, rfl, r3, m3, z3'⟩ := open_intc s3
      refine ⟨⟨⟨a0, pick4 (.slice A0 l0.length p0) (.slice A1 l1.length p1) (.slice A2 l2.length p2) (.slice A3 l3.length p3) (.slice none 0 0), fun k => ([b0, b1, b2, b3, b4, b5] : List Int).getD k 0, a3, a4⟩, pick4 l0 l1 l2 l3 []⟩, rfl, ⟨?_, ?_, ?_⟩, ?_⟩
      · intro k hk
        have : k = 0 ∨ k = 1 ∨ k = 2 ∨ k = 3 := by omega
        rcases this with rfl | rfl | rfl | rfl
        · exact ⟨A0, p0, rfl, r0⟩
        · exact ⟨A1, p1, rfl, r1⟩
        · exact ⟨A2, p2, rfl, r2⟩
        · exact ⟨A3, p3, rfl, r3⟩
      · intro k
        show (pick4 l0 l1 l2 l3 [] k).length ≤ maxLen
        unfold pick4
        split
        · exact m0
        · split
          · exact m1
          · split
            · exact m2
            · split
              · exact m3
              · simp
      · intro k hk
        show pick4 l0 l1 l2 l3 [] k = []
        unfold pick4
        rw [if_neg (by omega), if_neg (by omega), if_neg (by omega), if_neg (by omega)]
      · intro k hk n c hn
        have : k = 0 ∨ k = 1 ∨ k = 2 ∨ k = 3 := by omega
        rcases this with rfl | rfl | rfl | rfl
        · injection (show Value.slice A0 l0.length p0 = .slice none n c from hn) with e1 _ e3
          rw [← e3]
          exact z0' e1
        · injection (show Value.slice A1 l1.length p1 = .slice none n c from hn) with e1 _ e3
          rw [← e3]
          exact z1' e1
        · injection (show Value.slice A2 l2.length p2 = .slice none n c from hn) with e1 _ e3
          rw [← e3]
          exact z2' e1
        · injection (show Value.slice A3 l3.length p3 = .slice none n c from hn) with e1 _ e3
          rw [← e3]
          exact z3' e1
set_option maxRecDepth 100000 in
theorem open_pds {A : Option Addr} {len cap : Nat} {d : DataW H} {p : List MemPlace} (h : DataW.Trod enc Try.prog w base spare held 22 (.slice A len cap) d p) :
    ∃ l : List DV, l.length = len ∧ Row w A (dvcs l) ∧ l.length ≤ maxLen ∧ (A = none → cap = 0) ∧ ∀ q ∈ l, DvWf w q :=
  open_rows (f := dvc) Try.underlying22 (by kernel_rfl) (by omega) dvc_len (fun _ _ _ h => (open_pd h).imp fun _ h => ⟨h.1, h.2.1⟩) h
theorem open_pds2 {A : Option Addr} {len cap : Nat} {d : DataW H} {p : List MemPlace} (h : DataW.Trod enc Try.prog w base spare held 22 (.slice A len cap) d p) :
    ∃ l : List DV, l.length = len ∧ Row w A (dvcs l) ∧ l.length ≤ maxLen ∧ (A = none → cap = 0) ∧ ∀ q ∈ l, DvWf w q ∧ NilOk q :=
  open_rows (f := dvc) (Wf := fun q => DvWf w q ∧ NilOk q) Try.underlying22 (by kernel_rfl) (by omega) dvc_len (fun _ _ _ h => open_pd h) h
set_option maxRecDepth 100000 in
theorem open_pdv {r : Reach} {b0 : Nat} {v : Value} {d : DataW H} {p : List MemPlace} (hv : Value.okWide Try.prog w r b0 46 v) (h : DataW.Trod enc Try.prog w base spare held 46 v d p) :
    ∃ x : DV, v = .agg x.d.cells ∧ DvWf w x ∧ True := by
  obtain ⟨f0, f1, f2, f3, f4, hs, _⟩ := pd_fields
  obtain ⟨cs, rfl, hsz⟩ := okWide_struct hs hv
  obtain ⟨n, h⟩ := h
  obtain ⟨x, hx, hw, -⟩ := open_pd h
  refine ⟨x, ?_, hw, trivial⟩
  have : cs.toList = x.d.cells.toList := by simpa [Value.cells, dvc] using hx
  rw [Array.toList_inj.1 this]
end
end Go.Proofs.Ytdocdgghphhdpaa

