/- Arguments that came in, opened: power devices. -/
import Derived.Test.YtdocdgghphhdpaaMgRpInUse20
import Derived.Test.YtdocdgghphhdpaaMgRpInUse6
import Derived.Laws.IdiomArrays
import Derived.OpenShut
import Derived.Test.YtdocdgghphhdpaaMgRpInUse4
import Derived.Test.YtdocdgghphhdpaaMgRpInUse12
import Derived.Test.YtdocdgghphhdpaaMgRpInUse14
import Derived.Test.YtdocdgghphhdpaaMgRpInUse19
namespace Go.Proofs.Ytdocdgghphhdpaa
open Go.RowKit Go.ChangeShapes Go.WideShapes Go.Deep
theorem flat_one {α β : Type} (g : α → β) (l : List α) : l.flatMap (fun x => [g x]) = l.map g := by
  induction l with
  | nil => rfl
  | cons a l ih => simp [ih]
section
variable {H : Type} {enc : TypeId × Value → H} {w : World} {base : Nat} {spare : Nat → Bool} {held : Bool}
theorem open_intl {A : Option Addr} {len cap : Nat} {d : DataW H} {p : List MemPlace} (h : DataW.Trod enc Try.prog w base spare held 34 (.slice A len cap) d p) :
    ∃ l : List Int, l.length = len ∧ Row w A (l.map (Value.int .i64)) ∧ l.length ≤ maxLen ∧ (A = none → cap = 0) ∧ ∀ q ∈ l, Fits q := by
  obtain ⟨l, h1, h2, h3⟩ := open_rows (f := fun x : Int => [Value.int .i64 x]) (m := 1) (Wf := Fits) Try.underlying34 (by kernel_rfl) (by omega) (fun _ => rfl) (fun n cs y h => by
    obtain ⟨a, rfl, _, wa⟩ := DataW.trod_int Try.underlying3 h
    exact ⟨a, rfl, fits_of wa⟩) h
  rw [flat_one] at h2
  exact ⟨l, h1, h2, h3⟩
theorem open_intc {n : Nat} {c : Value} {y : DataW H × List MemPlace} (h : DataW.trod enc Try.prog w base spare held n 34 [c] = some y) :
    ∃ A cp, ∃ l : List Int, c = .slice A l.length cp ∧ Row w A (l.map (Value.int .i64)) ∧ l.length ≤ maxLen ∧ (A = none → cp = 0) := by
  obtain ⟨A, len, cap, rfl⟩ : ∃ A len cap, c = .slice A len cap := by
    rcases open_slice Try.underlying34 h with ⟨hcs, _⟩ | ⟨a, len', cap', _, _, _, _, hcs, _⟩
    · simp at hcs; exact ⟨_, _, _, hcs⟩
    · simp at hcs; exact ⟨_, _, _, hcs⟩
  obtain ⟨l, rfl, hr, hm, hz, _⟩ := open_intl (d := y.1) (p := y.2) ⟨n, h⟩
  exact ⟨A, cap, l, rfl, hr, hm, hz⟩
theorem pd_fields : ∃ f0 f1 f2 f3 f4, Try.prog.underlying 46 = some (.struct #[f0, f1, f2, f3, f4]) ∧ (f0.type = 3 ∧ f1.type = 43 ∧ f2.type = 44 ∧ f3.type = 3 ∧ f4.type = 3) ∧ (f0.offset = 0 ∧ f1.offset = 1 ∧ f2.offset = 5 ∧ f3.offset = 11 ∧ f4.offset = 12) :=
  ⟨(Try.prog.fieldsOf 46)[0]!, (Try.prog.fieldsOf 46)[1]!, (Try.prog.fieldsOf 46)[2]!, (Try.prog.fieldsOf 46)[3]!, (Try.prog.fieldsOf 46)[4]!, by kernel_rfl, ⟨by kernel_rfl, by kernel_rfl, by kernel_rfl, by kernel_rfl, by kernel_rfl⟩, by kernel_rfl, by kernel_rfl, by kernel_rfl, by kernel_rfl, by kernel_rfl⟩
def pick4 {α : Type} (a b c d e : α) (k : Nat) : α := if k = 0 then a else if k = 1 then b else if k = 2 then c else if k = 3 then d else e
/-- A rails' slice without memory has no capacity. -/
def NilOk (x : DV) : Prop := ∀ q, q < 4 → ∀ n c, x.d.rf q = .slice none n c → c = 0
def DvWf (w : World) (x : DV) : Prop := RailsAt w x.d x.rl ∧ (∀ k, (x.rl k).length ≤ maxLen) ∧ ∀ k, 4 ≤ k → x.rl k = []
set_option maxRecDepth 100000 in
theorem open_pd {n : Nat} {cs : List Value} {y : DataW H × List MemPlace} (h : DataW.trod enc Try.prog w base spare held n 46 cs = some y) : ∃ x : DV, cs = dvc x ∧ DvWf w x ∧ NilOk x := by
  obtain ⟨f0, f1, f2, f3, f4, hs, ⟨t0, t1, t2, t3, t4⟩, o0, o1, o2, o3, o4⟩ : ∃ f0 f1 f2 f3 f4, Try.prog.underlying 46 = some (.struct #[f0, f1, f2, f3, f4]) ∧ (f0.type = 3 ∧ f1.type = 43 ∧ f2.type = 44 ∧ f3.type = 3 ∧ f4.type = 3) ∧ (f0.offset = 0 ∧ f1.offset = 1 ∧ f2.offset = 5 ∧ f3.offset = 11 ∧ f4.offset = 12) := pd_fields
  obtain ⟨xs, k, _, _, hl, hlen, hf⟩ := DataW.trod_struct hs h
  have hc : Try.prog.cellsOf 46 = 13 := by kernel_rfl
  have hi : Try.prog.cellsOf 3 = 1 := by kernel_rfl
  have h4 : Try.prog.cellsOf 43 = 4 := by kernel_rfl
  have h6 : Try.prog.cellsOf 44 = 6 := by kernel_rfl
  have hsl : Try.prog.cellsOf 34 = 1 := by kernel_rfl
  rw [hc] at hl
  match xs, hlen, cs, hl with
  | [x0, x1, x2, x3, x4], _, [c0, c1, c2, c3, c4, c5, c6, c7, c8, c9, c10, c11, c12], _ =>
    have g0 := hf 0 f0 rfl
    have g1 := hf 1 f1 rfl
    have g2 := hf 2 f2 rfl
    have g3 := hf 3 f3 rfl
    have g4 := hf 4 f4 rfl
    rw [t0, o0, hi] at g0
    rw [t1, o1, h4] at g1
    rw [t2, o2, h6] at g2
    rw [t3, o3, hi] at g3
    rw [t4, o4, hi] at g4
    simp at g0 g1 g2 g3 g4
    obtain ⟨a0, e0, _, _⟩ := DataW.trod_int Try.underlying3 g0
    obtain ⟨a3, e3, _, _⟩ := DataW.trod_int Try.underlying3 g3
    obtain ⟨a4, e4, _, _⟩ := DataW.trod_int Try.underlying3 g4
    obtain ⟨y0, y1, y2, y3, n', _, s0, s1, s2, s3⟩ := trod_array4 Try.underlying43 hsl g1
    obtain ⟨zs, m, _, _, _, hzl, hz⟩ := DataW.trod_array Try.underlying44 g2
    rw [hi] at hz
    match zs, hzl with
    | [z0, z1, z2, z3, z4, z5], _ =>
      have q0 := hz 0 (by omega)
      have q1 := hz 1 (by omega)
      have q2 := hz 2 (by omega)
      have q3 := hz 3 (by omega)
      have q4 := hz 4 (by omega)
      have q5 := hz 5 (by omega)
      simp at q0 q1 q2 q3 q4 q5
      obtain ⟨b0, k0, _, _⟩ := DataW.trod_int Try.underlying3 q0
      obtain ⟨b1, k1, _, _⟩ := DataW.trod_int Try.underlying3 q1
      obtain ⟨b2, k2, _, _⟩ := DataW.trod_int Try.underlying3 q2
      obtain ⟨b3, k3, _, _⟩ := DataW.trod_int Try.underlying3 q3
      obtain ⟨b4, k4, _, _⟩ := DataW.trod_int Try.underlying3 q4
      obtain ⟨b5, k5, _, _⟩ := DataW.trod_int Try.underlying3 q5
      simp at e0 e3 e4 k0 k1 k2 k3 k4 k5
      subst e0 e3 e4 k0 k1 k2 k3 k4 k5
      obtain ⟨A0, p0, l0, rfl, r0, m0, z0'⟩ := open_intc s0
      obtain ⟨A1, p1, l1, rfl, r1, m1, z1'⟩ := open_intc s1
      obtain ⟨A2, p2, l2, rfl, r2, m2, z2'⟩ := open_intc s2
      obtain ⟨A3, p3, l3, rfl, r3, m3, z3'⟩ := open_intc s3
      refine ⟨⟨⟨a0, pick4 (.slice A0 l0.length p0) (.slice A1 l1.length p1) (.slice A2 l2.length p2) (.slice A3 l3.length p3) (.slice none 0 0), fun k => ([b0, b1, b2, b3, b4, b5] : List Int).getD k 0, a3, a4⟩, pick4 l0 l1 l2 l3 []⟩, rfl, ⟨?_, ?_, ?_⟩, ?_⟩
      · intro k hk
        have : k = 0 ∨ k = 1 ∨ k = 2 ∨ k = 3 := by omega
        rcases this with rfl | rfl | rfl | rfl
        · exact ⟨A0, p0, rfl, r0⟩
        · exact ⟨A1, p1, rfl, r1⟩
        · exact ⟨A2, p2, rfl, r2⟩
        · exact ⟨A3, p3, rfl, r3⟩
      · intro k
        show (pick4 l0 l1 l2 l3 [] k).length ≤ maxLen
        unfold pick4
        split
        · exact m0
        · split
          · exact m1
          · split
            · exact m2
            · split
              · exact m3
              · simp
      · intro k hk
        show pick4 l0 l1 l2 l3 [] k = []
        unfold pick4
        rw [if_neg (by omega), if_neg (by omega), if_neg (by omega), if_neg (by omega)]
      · intro k hk n c hn
        have : k = 0 ∨ k = 1 ∨ k = 2 ∨ k = 3 := by omega
        rcases this with rfl | rfl | rfl | rfl
        · injection (show Value.slice A0 l0.length p0 = .slice none n c from hn) with e1 _ e3
          rw [← e3]
          exact z0' e1
        · injection (show Value.slice A1 l1.length p1 = .slice none n c from hn) with e1 _ e3
          rw [← e3]
          exact z1' e1
        · injection (show Value.slice A2 l2.length p2 = .slice none n c from hn) with e1 _ e3
          rw [← e3]
          exact z2' e1
        · injection (show Value.slice A3 l3.length p3 = .slice none n c from hn) with e1 _ e3
          rw [← e3]
          exact z3' e1
set_option maxRecDepth 100000 in
theorem open_pds {A : Option Addr} {len cap : Nat} {d : DataW H} {p : List MemPlace} (h : DataW.Trod enc Try.prog w base spare held 22 (.slice A len cap) d p) :
    ∃ l : List DV, l.length = len ∧ Row w A (dvcs l) ∧ l.length ≤ maxLen ∧ (A = none → cap = 0) ∧ ∀ q ∈ l, DvWf w q :=
  open_rows (f := dvc) Try.underlying22 (by kernel_rfl) (by omega) dvc_len (fun _ _ _ h => (open_pd h).imp fun _ h => ⟨h.1, h.2.1⟩) h
theorem open_pds2 {A : Option Addr} {len cap : Nat} {d : DataW H} {p : List MemPlace} (h : DataW.Trod enc Try.prog w base spare held 22 (.slice A len cap) d p) :
    ∃ l : List DV, l.length = len ∧ Row w A (dvcs l) ∧ l.length ≤ maxLen ∧ (A = none → cap = 0) ∧ ∀ q ∈ l, DvWf w q ∧ NilOk q :=
  open_rows (f := dvc) (Wf := fun q => DvWf w q ∧ NilOk q) Try.underlying22 (by kernel_rfl) (by omega) dvc_len (fun _ _ _ h => open_pd h) h
set_option maxRecDepth 100000 in
theorem open_pdv {r : Reach} {b0 : Nat} {v : Value} {d : DataW H} {p : List MemPlace} (hv : Value.okWide Try.prog w r b0 46 v) (h : DataW.Trod enc Try.prog w base spare held 46 v d p) :
    ∃ x : DV, v = .agg x.d.cells ∧ DvWf w x ∧ True := by
  obtain ⟨f0, f1, f2, f3, f4, hs, _⟩ := pd_fields
  obtain ⟨cs, rfl, hsz⟩ := okWide_struct hs hv
  obtain ⟨n, h⟩ := h
  obtain ⟨x, hx, hw, -⟩ := open_pd h
  refine ⟨x, ?_, hw, trivial⟩
  have : cs.toList = x.d.cells.toList := by simpa [Value.cells, dvc] using hx
  rw [Array.toList_inj.1 this]
end
end Go.Proofs.Ytdocdgghphhdpaa

/- Arguments that came in, opened: rails and the calls of Set. -/
namespace Go.Proofs.Ytdocdgghphhdpaa
open Go.RowKit Go.ChangeShapes Go.WideShapes Go.Deep
theorem nat_of {x : Int} (h : (Lit.int .u64 x).wf = true) : ∃ n : Nat, x = (n : Int) ∧ n ≤ 18446744073709551615 := by
  simp only [Lit.wf, Bool.and_eq_true, decide_eq_true_eq] at h
  have h0 : 0 ≤ x := h.1
  have h1 : x ≤ 18446744073709551615 := h.2
  obtain ⟨n, rfl⟩ := Int.eq_ofNat_of_zero_le h0
  exact ⟨n, rfl, by omega⟩
section
variable {H : Type} {enc : TypeId × Value → H} {w : World} {base : Nat} {spare : Nat → Bool} {held : Bool}
theorem rail_fields : ∃ f0 f1 f2, Try.prog.underlying 49 = some (.struct #[f0, f1, f2]) ∧ (f0.type = 3 ∧ f1.type = 33 ∧ f2.type = 33) ∧ (f0.offset = 0 ∧ f1.offset = 1 ∧ f2.offset = 2) :=
  ⟨(Try.prog.fieldsOf 49)[0]!, (Try.prog.fieldsOf 49)[1]!, (Try.prog.fieldsOf 49)[2]!, by kernel_rfl, ⟨by kernel_rfl, by kernel_rfl, by kernel_rfl⟩, by kernel_rfl, by kernel_rfl, by kernel_rfl⟩
set_option maxRecDepth 100000 in
theorem open_rail {n : Nat} {cs : List Value} {y : DataW H × List MemPlace} (h : DataW.trod enc Try.prog w base spare held n 49 cs = some y) : ∃ x : RailD, cs = rlc x ∧ x.up ≤ 18446744073709551615 ∧ x.dn ≤ 18446744073709551615 := by
  obtain ⟨f0, f1, f2, hs, ⟨t0, t1, t2⟩, o0, o1, o2⟩ : ∃ f0 f1 f2, Try.prog.underlying 49 = some (.struct #[f0, f1, f2]) ∧ (f0.type = 3 ∧ f1.type = 33 ∧ f2.type = 33) ∧ (f0.offset = 0 ∧ f1.offset = 1 ∧ f2.offset = 2) := rail_fields
  obtain ⟨xs, k, _, _, hl, hlen, hf⟩ := DataW.trod_struct hs h
  have hc : Try.prog.cellsOf 49 = 3 := by kernel_rfl
  have hi : Try.prog.cellsOf 3 = 1 := by kernel_rfl
  have hu : Try.prog.cellsOf 33 = 1 := by kernel_rfl
  rw [hc] at hl
  match xs, hlen, cs, hl with
  | [x0, x1, x2], _, [c0, c1, c2], _ =>
    have g0 := hf 0 f0 rfl
    have g1 := hf 1 f1 rfl
    have g2 := hf 2 f2 rfl
    rw [t0, o0, hi] at g0
    rw [t1, o1, hu] at g1
    rw [t2, o2, hu] at g2
    simp at g0 g1 g2
    obtain ⟨a0, e0, _, w0⟩ := DataW.trod_int Try.underlying3 g0
    obtain ⟨a1, e1, _, w1⟩ := DataW.trod_int Try.underlying33 g1
    obtain ⟨a2, e2, _, w2⟩ := DataW.trod_int Try.underlying33 g2
    obtain ⟨n1, rfl, hn1⟩ := nat_of w1
    obtain ⟨n2, rfl, hn2⟩ := nat_of w2
    simp at e0 e1 e2
    subst e0 e1 e2
    exact ⟨⟨a0, n1, n2⟩, rfl, hn1, hn2⟩
theorem open_rails {A : Option Addr} {len cap : Nat} {d : DataW H} {p : List MemPlace} (h : DataW.Trod enc Try.prog w base spare held 23 (.slice A len cap) d p) :
    ∃ l : List RailD, l.length = len ∧ Row w A (l.flatMap rlc) ∧ l.length ≤ maxLen ∧ (A = none → cap = 0) ∧ ∀ q ∈ l, q.up ≤ 18446744073709551615 ∧ q.dn ≤ 18446744073709551615 :=
  open_rows (f := rlc) Try.underlying23 (by kernel_rfl) (by omega) rlc_len (fun _ _ _ h => open_rail h) h
theorem tcall_fields : ∃ f0 f1 f2 f3, Try.prog.underlying 36 = some (.struct #[f0, f1, f2, f3]) ∧ (f0.type = 3 ∧ f1.type = 3 ∧ f2.type = 33 ∧ f3.type = 4) ∧ (f0.offset = 0 ∧ f1.offset = 1 ∧ f2.offset = 2 ∧ f3.offset = 3) :=
  ⟨(Try.prog.fieldsOf 36)[0]!, (Try.prog.fieldsOf 36)[1]!, (Try.prog.fieldsOf 36)[2]!, (Try.prog.fieldsOf 36)[3]!, by kernel_rfl, ⟨by kernel_rfl, by kernel_rfl, by kernel_rfl, by kernel_rfl⟩, by kernel_rfl, by kernel_rfl, by kernel_rfl, by kernel_rfl⟩
set_option maxRecDepth 100000 in
theorem open_tcall {n : Nat} {cs : List Value} {y : DataW H × List MemPlace} (h : DataW.trod enc Try.prog w base spare held n 36 cs = some y) : ∃ x : TCL, cs = tclc x ∧ x.wait ≤ 18446744073709551615 := by
  obtain ⟨f0, f1, f2, f3, hs, ⟨t0, t1, t2, t3⟩, o0, o1, o2, o3⟩ : ∃ f0 f1 f2 f3, Try.prog.underlying 36 = some (.struct #[f0, f1, f2, f3]) ∧ (f0.type = 3 ∧ f1.type = 3 ∧ f2.type = 33 ∧ f3.type = 4) ∧ (f0.offset = 0 ∧ f1.offset = 1 ∧ f2.offset = 2 ∧ f3.offset = 3) := tcall_fields
  obtain ⟨xs, k, _, _, hl, hlen, hf⟩ := DataW.trod_struct hs h
  have hc : Try.prog.cellsOf 36 = 4 := by kernel_rfl
  have hi : Try.prog.cellsOf 3 = 1 := by kernel_rfl
  have hu : Try.prog.cellsOf 33 = 1 := by kernel_rfl
  have hb : Try.prog.cellsOf 4 = 1 := by kernel_rfl
  rw [hc] at hl
  match xs, hlen, cs, hl with
  | [x0, x1, x2, x3], _, [c0, c1, c2, c3], _ =>
    have g0 := hf 0 f0 rfl
    have g1 := hf 1 f1 rfl
    have g2 := hf 2 f2 rfl
    have g3 := hf 3 f3 rfl
    rw [t0, o0, hi] at g0
    rw [t1, o1, hi] at g1
    rw [t2, o2, hu] at g2
    rw [t3, o3, hb] at g3
    simp at g0 g1 g2 g3
    obtain ⟨a0, e0, _, _⟩ := DataW.trod_int Try.underlying3 g0
    obtain ⟨a1, e1, _, _⟩ := DataW.trod_int Try.underlying3 g1
    obtain ⟨a2, e2, _, w2⟩ := DataW.trod_int Try.underlying33 g2
    obtain ⟨a3, e3, _⟩ := DataW.trod_bool Try.underlying4 g3
    obtain ⟨n2, rfl, hn2⟩ := nat_of w2
    simp at e0 e1 e2 e3
    subst e0 e1 e2 e3
    exact ⟨⟨a0, a1, n2, a3⟩, rfl, hn2⟩
theorem open_tcalls {A : Option Addr} {len cap : Nat} {d : DataW H} {p : List MemPlace} (h : DataW.Trod enc Try.prog w base spare held 24 (.slice A len cap) d p) :
    ∃ l : List TCL, l.length = len ∧ Row w A (tclcs l) ∧ l.length ≤ maxLen ∧ (A = none → cap = 0) ∧ ∀ q ∈ l, q.wait ≤ 18446744073709551615 :=
  open_rows (f := tclc) Try.underlying24 (by kernel_rfl) (by omega) tclc_len (fun _ _ _ h => open_tcall h) h
end
end Go.Proofs.Ytdocdgghphhdpaa

/- Chapter 27's tree, shared by the laws: rails, devices and the tree as the laws make them. -/
namespace Go.Proofs.Ytdocdgghphhdpaa
open Go.RowKit

theorem row_out {S : List Nat} {w w' : World} {A : Option Addr} {xs : List Value} (h : Row w A xs) (k : Fr S w w') (hA : ∀ ad, A = some ad → ad.block ∉ S) : Row w' A xs := h.fr k (fun ad e hm => hA ad e hm)
structure Brd (w w3 : World) (A8 A7 : Option Addr) (out : List DV) (C : TC) (T : TP) (ds' : List DV) : Prop where
  so : SomeOk out C.n
  nd : out.length = C.nd
  n8 : C.n ≤ 8
  nd6 : C.nd ≤ 6
  tie : ∀ i x, out[i]? = some x → x.d.par = C.par i ∧ x.rl = C.rl i
  ok : TOk C
  lim : ∀ k, k < C.n → (C.R k).up < 20 ∧ (C.R k).dn < 20
  rank : ∃ rk : Nat → Nat, RankR C.n C.R rk ∧ ∀ k, rk k ≤ 8
  at_ : TrAt w3 T ds' C tsz
  fr : Fr [] w w3
  new : ∀ g ∈ T.wr, w.heap.size ≤ g ∧ g < w3.heap.size
  dv : ∀ w', Fr T.wr w3 w' → DvsAt w' A8 out ∧ Row w' A7 (rlcs C.R C.n)
theorem brd_new2 {w w1 w2 : World} {A8 A7 : Option Addr} {c8 c7 m : Nat} {R : Nat → RailD} {rk : Nat → Nat} {raw out : List DV} (h25 : w1.ownsRow w.heap.size 49 3 (.slice A7 m c7) m (rlcs R m)) (hg : Good25 m R rk) (f1 : Fr [] w w1)
    (h27 : w2.ownsRow w1.heap.size 46 13 (.slice A8 out.length c8) out.length (dvcs out)) (hrl : ∀ x ∈ out, OwnRails w2 w1.heap.size x.d x.rl) (hso : SomeTo raw out m (min raw.length 6)) (f2 : Fr [] w1 w2) :
    ∃ C : TC, C.n = m ∧ out.length = C.nd ∧ (∀ i x, out[i]? = some x → x.d.par = C.par i ∧ x.rl = C.rl i) ∧ TOk C ∧ ∀ w2', Fr [] w2 w2' → Calls Try.prog 18 #[.slice A8 out.length c8, .slice A7 m c7] w2' (fun e w3 => ∃ T ds', e = .returned (.tuple #[.pointer (some ⟨T.b, 0, none⟩), .int .i64 0]) ∧ Brd w w3 A8 A7 out C T ds' ∧ Fr [] w2' w3) := by
  have hsok := someOk_of hso
  obtain ⟨ch, hch⟩ := good_ch hg
  have hn8 := hg.n8
  have hok := mkTC_ok hsok hn8 hch
  have h6 := hsok.len
  obtain ⟨A8', c8', e8, -, hr8, hb8⟩ := own_slice h27
  injection e8 with e8 _ e8c
  subst e8 e8c
  have h25' := own_fr h25 f2 (fun _ _ => by simp)
  obtain ⟨A7', c7', e7, hn7, hr7, hb7⟩ := own_slice h25'
  injection e7 with e7 _ e7c
  subst e7 e7c
  have hdv : DvsAt w2 A8 out := ⟨hr8, fun x hx => (hrl x hx).at_⟩
  have hbk : ∀ x ∈ out, ∀ q, q < 4 → ∀ ad n c, x.d.rf q = .slice (some ad) n c → ad.block < w2.heap.size := fun x hx q hq ad n c e => (own_block (hrl x hx q hq) (by rw [e]; rfl)).2.1
  refine ⟨mkTC out m R ch, rfl, rfl, mkTC_tie out m R ch, hok, fun w2' hfx => (dnew_any A8 c8 out A7 c7 (mkTC out m R ch) w2' (hdv.fr0 hfx) (fun x hx k => ?_) (by unfold maxLen; omega) (fun x hx q hq n c e => ?_) rfl (mkTC_tie out m R ch) (hr7.fr0 hfx) (fun e => ?_) (by show m ≤ maxLen; unfold maxLen; omega)).mono ?_⟩
  · obtain ⟨i, hi⟩ := List.getElem?_of_mem hx
    obtain ⟨r, rf, rfl⟩ := hsok.el i x hi
    have := (someRl_ok r m k).2.2
    show (someRl r m k).length ≤ 4096
    omega
  · rcases (hrl x hx q hq).2 with ⟨h0, h1⟩ | ⟨g, cap, cur, hv, _⟩
    · rw [h0] at e
      injection e with _ _ e
      exact e.symm
    · rw [hv] at e
      injection e with e
      cases e
  · rcases h25'.2 with ⟨h0, h1⟩ | ⟨g, cap, cur, hv, _⟩
    · injection h0 with _ a b
      exact ⟨b, h1⟩
    · injection hv with hv
      rw [e] at hv
      cases hv
  · rintro e w3 ⟨hf3, ⟨hne, -⟩ | ⟨-, T, ds', rfl, hat, hnew, hhi⟩⟩
    · exact absurd (good_new hsok hg) hne
    refine ⟨T, ds', rfl, ?_, hf3⟩
    have hsx := hfx.size
    have hge : ∀ g ∈ T.wr, w2.heap.size ≤ g := fun g hg => by
      obtain ⟨n1, n2, n3, n4, n5⟩ := hnew
      simp only [TP.wr, List.mem_cons, List.not_mem_nil, or_false] at hg
      omega
    have hlt : ∀ g ∈ T.wr, g < w3.heap.size := fun g hg => by
      have hlw := hat.low
      obtain ⟨h1, h2, ⟨h3, h4, h5, -⟩, -, -⟩ := hlw
      simp only [TP.wr, List.mem_cons, List.not_mem_nil, or_false] at hg
      omega
    have hs1 := f1.size
    have hs2 := f2.size
    refine ⟨hsok, rfl, hn8, h6, mkTC_tie out m R ch, hok, hg.lim, ⟨rk, hg.rank, hg.rk8⟩, hat, ((f1.call f2).call hfx).call hf3, fun g hg => ⟨Nat.le_trans (Nat.le_trans hs1 hs2) (hge g hg), hlt g hg⟩, fun w' k => ?_⟩
    have hd3 := (hdv.fr0 hfx).fr0 hf3
    refine ⟨⟨row_out hd3.1 k (fun ad e hm => ?_), fun x hx => ?_⟩, row_out ((hr7.fr0 hfx).fr0 hf3) k (fun ad e hm => ?_)⟩
    · have := (hb8 ad e).2
      have := hge _ hm
      omega
    · intro q hq
      obtain ⟨A, cp, e, hr⟩ := hd3.2 x hx q hq
      refine ⟨A, cp, e, row_out hr k (fun ad ea hm => ?_)⟩
      subst ea
      have := hbk x hx q hq ad _ _ e
      have := hge _ hm
      omega
    · have := (hb7 ad e).2
      have := hge _ hm
      omega
theorem brd_new {w w1 w2 : World} {A8 A7 : Option Addr} {c8 c7 m : Nat} {R : Nat → RailD} {rk : Nat → Nat} {raw out : List DV} (h25 : w1.ownsRow w.heap.size 49 3 (.slice A7 m c7) m (rlcs R m)) (hg : Good25 m R rk) (f1 : Fr [] w w1)
    (h27 : w2.ownsRow w1.heap.size 46 13 (.slice A8 out.length c8) out.length (dvcs out)) (hrl : ∀ x ∈ out, OwnRails w2 w1.heap.size x.d x.rl) (hso : SomeTo raw out m (min raw.length 6)) (f2 : Fr [] w1 w2) :
    ∃ C : TC, C.n = m ∧ out.length = C.nd ∧ Calls Try.prog 18 #[.slice A8 out.length c8, .slice A7 m c7] w2 (fun e w3 => ∃ T ds', e = .returned (.tuple #[.pointer (some ⟨T.b, 0, none⟩), .int .i64 0]) ∧ Brd w w3 A8 A7 out C T ds') := by
  obtain ⟨C, h1, h2, -, -, h3⟩ := brd_new2 h25 hg f1 h27 hrl hso f2
  exact ⟨C, h1, h2, (h3 w2 (Fr.refl _ _)).mono fun _ _ ⟨T, ds', a, b, _⟩ => ⟨T, ds', a, b⟩⟩
end Go.Proofs.Ytdocdgghphhdpaa

/- Rails, devices and the tree, the rows' bases apart. -/
namespace Go.Proofs.Ytdocdgghphhdpaa
open Go.RowKit

/-- What turned lies below. -/
theorem TrAt.frUnder {w w' : World} {T : TP} {ds : List DV} {C : TC} {s : TSt} {S : List Nat} {base : Nat} (h : TrAt w T ds C s) (hn : ∀ g ∈ T.wr, base ≤ g) (hh : TrHi T ds base) (k : Fr S w w') (hS : ∀ g ∈ S, g < base) : TrAt w' T ds C s where
  blk := h.blk.fr k (fun hm => by have := hS _ hm; have := hn T.b (by simp [TP.wr]); omega)
  dv := h.dv.frOff k (fun ad e hm => by have := hS _ hm; have := hh.1 ad e; omega) (fun x hx q hq g hg hm => by have := hS _ hm; have := hh.2.1 x hx q hq g hg; omega)
  len := h.len
  tie := h.tie
  sS := fun h0 => ⟨(h.sS h0).1, (h.sS h0).2.fr k (fun hm => by have := hS _ hm; have := hn T.gS (by simp [TP.wr]); omega)⟩
  rl := h.rl.fr k (fun g hg => by
    have := hS g hg
    have h1 := hn T.pr.b (by simp [TP.wr])
    have h2 := hn T.pr.gB (by simp [TP.wr])
    have h3 := hn T.pr.gC (by simp [TP.wr])
    exact ⟨by omega, by omega, by omega, fun ad e => by have := hh.2.2 ad e; omega⟩)
  pn := h.pn
  offA := h.offA
  offR := h.offR
  sepS := h.sepS
  sepA := h.sepA
  low := h.low.mono k.size
theorem brd_new4 {w w2 : World} {b7 b8 : Nat} {A8 A7 : Option Addr} {c8 c7 m : Nat} {R : Nat → RailD} {rk : Nat → Nat} {raw out : List DV} (h25 : w2.ownsRow b7 49 3 (.slice A7 m c7) m (rlcs R m)) (hg : Good25 m R rk) (f : Fr [] w w2)
    (h27 : w2.ownsRow b8 46 13 (.slice A8 out.length c8) out.length (dvcs out)) (hrl : ∀ x ∈ out, OwnRails w2 b8 x.d x.rl) (hso : SomeTo raw out m (min raw.length 6)) :
    ∃ C : TC, C.n = m ∧ out.length = C.nd ∧ (∀ i x, out[i]? = some x → x.d.par = C.par i ∧ x.rl = C.rl i) ∧ TOk C ∧ ∀ w2', Fr [] w2 w2' → Calls Try.prog 18 #[.slice A8 out.length c8, .slice A7 m c7] w2' (fun e w3 => ∃ T ds', e = .returned (.tuple #[.pointer (some ⟨T.b, 0, none⟩), .int .i64 0]) ∧ Brd w w3 A8 A7 out C T ds' ∧ Fr [] w2' w3 ∧ (∀ g ∈ T.wr, w2'.heap.size ≤ g) ∧ TrHi T ds' w2'.heap.size) := by
  have hsok := someOk_of hso
  obtain ⟨ch, hch⟩ := good_ch hg
  have hn8 := hg.n8
  have hok := mkTC_ok hsok hn8 hch
  have h6 := hsok.len
  obtain ⟨A8', c8', e8, -, hr8, hb8⟩ := own_slice h27
  injection e8 with e8 _ e8c
  subst e8 e8c
  have h25' := h25
  obtain ⟨A7', c7', e7, hn7, hr7, hb7⟩ := own_slice h25'
  injection e7 with e7 _ e7c
  subst e7 e7c
  have hdv : DvsAt w2 A8 out := ⟨hr8, fun x hx => (hrl x hx).at_⟩
  have hbk : ∀ x ∈ out, ∀ q, q < 4 → ∀ ad n c, x.d.rf q = .slice (some ad) n c → ad.block < w2.heap.size := fun x hx q hq ad n c e => (own_block (hrl x hx q hq) (by rw [e]; rfl)).2.1
  refine ⟨mkTC out m R ch, rfl, rfl, mkTC_tie out m R ch, hok, fun w2' hfx => (dnew_any A8 c8 out A7 c7 (mkTC out m R ch) w2' (hdv.fr0 hfx) (fun x hx k => ?_) (by unfold maxLen; omega) (fun x hx q hq n c e => ?_) rfl (mkTC_tie out m R ch) (hr7.fr0 hfx) (fun e => ?_) (by show m ≤ maxLen; unfold maxLen; omega)).mono ?_⟩
  · obtain ⟨i, hi⟩ := List.getElem?_of_mem hx
    obtain ⟨r, rf, rfl⟩ := hsok.el i x hi
    have := (someRl_ok r m k).2.2
    show (someRl r m k).length ≤ 4096
    omega
  · rcases (hrl x hx q hq).2 with ⟨h0, h1⟩ | ⟨g, cap, cur, hv, _⟩
    · rw [h0] at e
      injection e with _ _ e
      exact e.symm
    · rw [hv] at e
      injection e with e
      cases e
  · rcases h25'.2 with ⟨h0, h1⟩ | ⟨g, cap, cur, hv, _⟩
    · injection h0 with _ a b
      exact ⟨b, h1⟩
    · injection hv with hv
      rw [e] at hv
      cases hv
  · rintro e w3 ⟨hf3, ⟨hne, -⟩ | ⟨-, T, ds', rfl, hat, hnew, hhi⟩⟩
    · exact absurd (good_new hsok hg) hne
    have hnew2 := hnew
    refine ⟨T, ds', rfl, ?_, hf3, fun g hg => by
      obtain ⟨n1, n2, n3, n4, n5⟩ := hnew2
      simp only [TP.wr, List.mem_cons, List.not_mem_nil, or_false] at hg
      omega, hhi⟩
    have hsx := hfx.size
    have hge : ∀ g ∈ T.wr, w2.heap.size ≤ g := fun g hg => by
      obtain ⟨n1, n2, n3, n4, n5⟩ := hnew
      simp only [TP.wr, List.mem_cons, List.not_mem_nil, or_false] at hg
      omega
    have hlt : ∀ g ∈ T.wr, g < w3.heap.size := fun g hg => by
      have hlw := hat.low
      obtain ⟨h1, h2, ⟨h3, h4, h5, -⟩, -, -⟩ := hlw
      simp only [TP.wr, List.mem_cons, List.not_mem_nil, or_false] at hg
      omega
    have hs1 := f.size
    refine ⟨hsok, rfl, hn8, h6, mkTC_tie out m R ch, hok, hg.lim, ⟨rk, hg.rank, hg.rk8⟩, hat, (f.call hfx).call hf3, fun g hg => ⟨Nat.le_trans hs1 (hge g hg), hlt g hg⟩, fun w' k => ?_⟩
    have hd3 := (hdv.fr0 hfx).fr0 hf3
    refine ⟨⟨row_out hd3.1 k (fun ad e hm => ?_), fun x hx => ?_⟩, row_out ((hr7.fr0 hfx).fr0 hf3) k (fun ad e hm => ?_)⟩
    · have := (hb8 ad e).2
      have := hge _ hm
      omega
    · intro q hq
      obtain ⟨A, cp, e, hr⟩ := hd3.2 x hx q hq
      refine ⟨A, cp, e, row_out hr k (fun ad ea hm => ?_)⟩
      subst ea
      have := hbk x hx q hq ad _ _ e
      have := hge _ hm
      omega
    · have := (hb7 ad e).2
      have := hge _ hm
      omega
end Go.Proofs.Ytdocdgghphhdpaa

