/- Arguments that came in, opened: rails and the calls of Set. -/
import Derived.Test.YtdocdgghphhdpaaOpenDMg
import Derived.Test.YtdocdgghphhdpaaMgDeviceTree4
import Derived.Test.YtdocdgghphhdpaaMgDeviceTree13
import Derived.Test.YtdocdgghphhdpaaMgDeviceTree15
import Derived.Test.YtdocdgghphhdpaaMgDeviceTree16
namespace Go.Proofs.Ytdocdgghphhdpaa
open Go.RowKit Go.ChangeShapes Go.WideShapes Go.Deep
theorem nat_of {x : Int} (h : (Lit.int .u64 x).wf = true) : ∃ n : Nat, x = (n : Int) ∧ n ≤ 18446744073709551615 := by
  simp only [Lit.wf, Bool.and_eq_true, decide_eq_true_eq] at h
  have h0 : 0 ≤ x := h.1
  have h1 : x ≤ 18446744073709551615 := h.2
  obtain ⟨n, rfl⟩ := Int.eq_ofNat_of_zero_le h0
  exact ⟨n, rfl, by omega⟩
section
variable {H : Type} {enc : TypeId × Value → H} {w : World} {base : Nat} {spare : Nat → Bool} {held : Bool}
theorem rail_fields : ∃ f0 f1 f2, Try.prog.underlying 49 = some (.struct #[f0, f1, f2]) ∧ (f0.type = 3 ∧ f1.type = 33 ∧ f2.type = 33) ∧ (f0.offset = 0 ∧ f1.offset = 1 ∧ f2.offset = 2) :=
  ⟨(Try.prog.fieldsOf 49)[0]!, (Try.prog.fieldsOf 49)[1]!, (Try.prog.fieldsOf 49)[2]!, by kernel_rfl, ⟨by kernel_rfl, by kernel_rfl, by kernel_rfl⟩, by kernel_rfl, by kernel_rfl, by kernel_rfl⟩
set_option maxRecDepth 100000 in
theorem open_rail {n : Nat} {cs : List Value} {y : DataW H × List MemPlace} (h : DataW.trod enc Try.prog w base spare held n 49 cs = some y) : ∃ x : RailD, cs = rlc x ∧ x.up ≤ 18446744073709551615 ∧ x.dn ≤ 18446744073709551615 := by
  obtain ⟨f0, f1, f2, hs, ⟨t0, t1, t2⟩, o0, o1, o2⟩ : ∃ f0 f1 f2, Try.prog.underlying 49 = some (.struct #[f0, f1, f2]) ∧ (f0.type = 3 ∧ f1.type = 33 ∧ f2.type = 33) ∧ (f0.offset = 0 ∧ f1.offset = 1 ∧ f2.offset = 2) := rail_fields
  obtain ⟨xs, k, _, _, hl, hlen, hf⟩ := DataW.trod_struct hs h
  have hc : Try.prog.cellsOf 49 = 3 := by kernel_rfl
  have hi : Try.prog.cellsOf 3 = 1 := by kernel_rfl
  have hu : Try.prog.cellsOf 33 = 1 := by kernel_rfl
  rw [hc] at hl
  match xs, hlen, cs, hl with
  | [x0, x1, x2], _, [c0, c1, c2], _ =>
    have g0 := hf 0 f0 rfl
    have g1 := hf 1 f1 rfl
    have g2 := hf 2 f2 rfl
    rw [t0, o0, hi] at g0
    rw [t1, o1, hu] at g1
    rw [t2, o2, hu] at g2
    simp at g0 g1 g2
    obtain ⟨a0, e0, _, w0⟩ := DataW.trod_int Try.underlying3 g0
    obtain ⟨a1, e1, _, w1⟩ := DataW.trod_int Try.underlying33 g1
    obtain ⟨a2, e2, _, w2⟩ := DataW.trod_int Try.underlying33 g2
    obtain ⟨n1, rfl, hn1⟩ := nat_of w1
    obtain ⟨n2, rfl, hn2⟩ := nat_of w2
    simp at e0 e1 e2
    subst e0 e1 e2
    exact ⟨⟨a0, n1, n2⟩, rfl, hn1, hn2⟩
theorem open_rails {A : Option Addr} {len cap : Nat} {d : DataW H} {p : List MemPlace} (h : DataW.Trod enc Try.prog w base spare held 23 (.slice A len cap) d p) :
    ∃ l : List RailD, l.length = len ∧ Row w A (l.flatMap rlc) ∧ l.length ≤ maxLen ∧ (A = none → cap = 0) ∧ ∀ q ∈ l, q.up ≤ 18446744073709551615 ∧ q.dn ≤ 18446744073709551615 :=
  open_rows (f := rlc) Try.underlying23 (by kernel_rfl) (by omega) rlc_len (fun _ _ _ h => open_rail h) h
theorem tcall_fields : ∃ f0 f1 f2 f3, Try.prog.underlying 36 = some (.struct #[f0, f1, f2, f3]) ∧ (f0.type = 3 ∧ f1.type = 3 ∧ f2.type = 33 ∧ f3.type = 4) ∧ (f0.offset = 0 ∧ f1.offset = 1 ∧ f2.offset = 2 ∧ f3.offset = 3) :=
  ⟨(Try.prog.fieldsOf 36)[0]!, (Try.prog.fieldsOf 36)[1]!, (Try.prog.fieldsOf 36)[2]!, (Try.prog.fieldsOf 36)[3]!, by kernel_rfl, ⟨by kernel_rfl, by kernel_rfl, by kernel_rfl, by kernel_rfl⟩, by kernel_rfl, by kernel_rfl, by kernel_rfl, by kernel_rfl⟩
set_option maxRecDepth 100000 in
theorem open_tcall {n : Nat} {cs : List Value} {y : DataW H × List MemPlace} (h : DataW.trod enc Try.prog w base spare held n 36 cs = some y) : ∃ x : TCL, cs = tclc x ∧ x.wait ≤ 18446744073709551615 := by
  obtain ⟨f0, f1, f2, f3, hs, ⟨t0, t1, t2, t3⟩, o0, o1, o2, o3⟩ : ∃ f0 f1 f2 f3, Try.prog.underlying 36 = some (.struct #[f0, f1, f2, f3]) ∧ (f0.type = 3 ∧ f1.type = 3 ∧ f2.type = 33 ∧ f3.type = 4) ∧ (f0.offset = 0 ∧ f1.offset = 1 ∧ f2.offset = 2 ∧ f3.offset = 3) := tcall_fields
  obtain ⟨xs, k, _, _, hl, hlen, hf⟩ := DataW.trod_struct hs h
  have hc : Try.prog.cellsOf 36 = 4 := by kernel_rfl
  have hi : Try.prog.cellsOf 3 = 1 := by kernel_rfl
  have hu : Try.prog.cellsOf 33 = 1 := by kernel_rfl
  have hb : Try.prog.cellsOf 4 = 1 := by kernel_rfl
  rw [hc] at hl
  match xs, hlen, cs, hl with
  | [x0, x1, x2, x3], _, [c0, c1, c2, c3], _ =>
    have g0 := hf 0 f0 rfl
    have g1 := hf 1 f1 rfl
    have g2 := hf 2 f2 rfl
    have g3 := hf 3 f3 rfl
    rw [t0, o0, hi] at g0
    rw [t1, o1, hi] at g1
    rw [t2, o2, hu] at g2
    rw [t3, o3, hb] at g3
    simp at g0 g1 g2 g3
    obtain ⟨a0, e0, _, _⟩ := DataW.trod_int Try.underlying3 g0
    obtain ⟨a1, e1, _, _⟩ := DataW.trod_int Try.underlying3 g1
    obtain ⟨a2, e2, _, w2⟩ := DataW.trod_int Try.underlying33 g2
    obtain ⟨a3, e3, _⟩ := DataW.trod_bool Try.underlying4 g3
    obtain ⟨n2, rfl, hn2⟩ := nat_of w2
    simp at e0 e1 e2 e3
    subst e0 e1 e2 e3
    exact ⟨⟨a0, a1, n2, a3⟩, rfl, hn2⟩
theorem open_tcalls {A : Option Addr} {len cap : Nat} {d : DataW H} {p : List MemPlace} (h : DataW.Trod enc Try.prog w base spare held 24 (.slice A len cap) d p) :
    ∃ l : List TCL, l.length = len ∧ Row w A (tclcs l) ∧ l.length ≤ maxLen ∧ (A = none → cap = 0) ∧ ∀ q ∈ l, q.wait ≤ 18446744073709551615 :=
  open_rows (f := tclc) Try.underlying24 (by kernel_rfl) (by omega) tclc_len (fun _ _ _ h => open_tcall h) h
end
end Go.Proofs.Ytdocdgghphhdpaa

/- Chapter 27's tree, shared by the laws: rails, devices and the tree as the laws make them. -/
namespace Go.Proofs.Ytdocdgghphhdpaa
open Go.RowKit

theorem row_out {S : List Nat} {w w' : World} {A : Option Addr} {xs : List Value} (h : Row w A xs) (k : Fr S w w') (hA : ∀ ad, A = some ad → ad.block ∉ S) : Row w' A xs := h.fr k (fun ad e hm => hA ad e hm)
structure Brd (w w3 : World) (A8 A7 : Option Addr) (out : List DV) (C : TC) (T : TP) (ds' : List DV) : Prop where
  so : SomeOk out C.n
  nd : out.length = C.nd
  n8 : C.n ≤ 8
  nd6 : C.nd ≤ 6
  tie : ∀ i x, out[i]? = some x → x.d.par = C.par i ∧ x.rl = C.rl i
  ok : TOk C
  lim : ∀ k, k < C.n → (C.R k).up < 20 ∧ (C.R k).dn < 20
  rank : ∃ rk : Nat → Nat, RankR C.n C.R rk ∧ ∀ k, rk k ≤ 8
  at_ : TrAt w3 T ds' C tsz
  fr : Fr [] w w3
  new : ∀ g ∈ T.wr, w.heap.size ≤ g ∧ g < w3.heap.size
  dv : ∀ w', Fr T.wr w3 w' → DvsAt w' A8 out ∧ Row w' A7 (rlcs C.R C.n)
theorem brd_new2 {w w1 w2 : World} {A8 A7 : Option Addr} {c8 c7 m : Nat} {R : Nat → RailD} {rk : Nat → Nat} {raw out : List DV} (h25 : w1.ownsRow w.heap.size 49 3 (.slice A7 m c7) m (rlcs R m)) (hg : Good25 m R rk) (f1 : Fr [] w w1)
    (h27 : w2.ownsRow w1.heap.size 46 13 (.slice A8 out.length c8) out.length (dvcs out)) (hrl : ∀ x ∈ out, OwnRails w2 w1.heap.size x.d x.rl) (hso : SomeTo raw out m (min raw.length 6)) (f2 : Fr [] w1 w2) :
    ∃ C : TC, C.n = m ∧ out.length = C.nd ∧ (∀ i x, out[i]? = some x → x.d.par = C.par i ∧ x.rl = C.rl i) ∧ TOk C ∧ ∀ w2', Fr [] w2 w2' → Calls Try.prog 18 #[.slice A8 out.length c8, .slice A7 m c7] w2' (fun e w3 => ∃ T ds', e = .returned (.tuple #[.pointer (some ⟨T.b, 0, none⟩), .int .i64 0]) ∧ Brd w w3 A8 A7 out C T ds' ∧ Fr [] w2' w3) := by
  have hsok := someOk_of hso
  obtain ⟨ch, hch⟩ := good_ch hg
  have hn8 := hg.n8
  have hok := mkTC_ok hsok hn8 hch
  have h6 := hsok.len
  obtain ⟨A8', c8', e8, -, hr8, hb8⟩ := own_slice h27
  injection e8 with e8 _ e8c
  subst e8 e8c
  have h25' := own_fr h25 f2 (fun _ _ => by simp)
  obtain ⟨A7', c7', e7, hn7, hr7, hb7⟩ := own_slice h25'
  injection e7 with e7 _ e7c
  subst e7 e7c
  have hdv : DvsAt w2 A8 out := ⟨hr8, fun x hx => (hrl x hx).at_⟩
  have hbk : ∀ x ∈ out, ∀ q, q < 4 → ∀ ad n c, x.d.rf q = .slice (some ad) n c → ad.block < w2.heap.size := fun x hx q hq ad n c e => (own_block (hrl x hx q hq) (by rw [e]; rfl)).2.1
  refine ⟨mkTC out m R ch, rfl, rfl, mkTC_tie out m R ch, hok, fun w2' hfx => (dnew_any A8 c8 out A7 c7 (mkTC out m R ch) w2' (hdv.fr0 hfx) (fun x hx k => ?_) (by unfold maxLen; omega) (fun x hx q hq n c e => ?_) rfl (mkTC_tie out m R ch) (hr7.fr0 hfx) (fun e => ?_) (by show m ≤ maxLen; unfold maxLen; omega)).mono ?_⟩
  · obtain ⟨i, hi⟩ := List.getElem?_of_mem hx
    obtain ⟨r, rf, rfl⟩ := hsok.el i x hi
    have := (someRl_ok r m k).2.2
    show (someRl r m k).length ≤ 4096
    omega
  · rcases (hrl x hx q hq).2 with ⟨h0, h1⟩ | ⟨g, cap, cur, hv, _⟩
    · rw [h0] at e
      injection e with _ _ e
      exact e.symm
    · rw [hv] at e
      injection e with e
      cases e
  · rcases h25'.2 with ⟨h0, h1⟩ | ⟨g, cap, cur, hv, _⟩
    · injection h0 with _ a b
      exact ⟨b, h1⟩
    · injection hv with hv
      rw [e] at hv
      cases hv
  · rintro e w3 ⟨hf3, ⟨hne, -⟩ | ⟨-, T, ds', rfl, hat, hnew, hhi⟩⟩
    · exact absurd (good_new hsok hg) hne
    refine ⟨T, ds', rfl, ?_, hf3⟩
    have hsx := hfx.size
    have hge : ∀ g ∈ T.wr, w2.heap.size ≤ g := fun g hg => by
      obtain ⟨n1, n2, n3, n4, n5⟩ := hnew
      simp only [TP.wr, List.mem_cons, List.not_mem_nil, or_false] at hg
      omega
    have hlt : ∀ g ∈ T.wr, g < w3.heap.size := fun g hg => by
      have hlw := hat.low
      obtain ⟨h1, h2, ⟨h3, h4, h5, -⟩, -, -⟩ := hlw
      simp only [TP.wr, List.mem_cons, List.not_mem_nil, or_false] at hg
      omega
    have hs1 := f1.size
    have hs2 := f2.size
    refine ⟨hsok, rfl, hn8, h6, mkTC_tie out m R ch, hok, hg.lim, ⟨rk, hg.rank, hg.rk8⟩, hat, ((f1.call f2).call hfx).call hf3, fun g hg => ⟨Nat.le_trans (Nat.le_trans hs1 hs2) (hge g hg), hlt g hg⟩, fun w' k => ?_⟩
    have hd3 := (hdv.fr0 hfx).fr0 hf3
    refine ⟨⟨row_out hd3.1 k (fun ad e hm => ?_), fun x hx => ?_⟩, row_out ((hr7.fr0 hfx).fr0 hf3) k (fun ad e hm => ?_)⟩
    · have := (hb8 ad e).2
      have := hge _ hm
      omega
    · intro q hq
      obtain ⟨A, cp, e, hr⟩ := hd3.2 x hx q hq
      refine ⟨A, cp, e, row_out hr k (fun ad ea hm => ?_)⟩
      subst ea
      have := hbk x hx q hq ad _ _ e
      have := hge _ hm
      omega
    · have := (hb7 ad e).2
      have := hge _ hm
      omega
theorem brd_new {w w1 w2 : World} {A8 A7 : Option Addr} {c8 c7 m : Nat} {R : Nat → RailD} {rk : Nat → Nat} {raw out : List DV} (h25 : w1.ownsRow w.heap.size 49 3 (.slice A7 m c7) m (rlcs R m)) (hg : Good25 m R rk) (f1 : Fr [] w w1)
    (h27 : w2.ownsRow w1.heap.size 46 13 (.slice A8 out.length c8) out.length (dvcs out)) (hrl : ∀ x ∈ out, OwnRails w2 w1.heap.size x.d x.rl) (hso : SomeTo raw out m (min raw.length 6)) (f2 : Fr [] w1 w2) :
    ∃ C : TC, C.n = m ∧ out.length = C.nd ∧ Calls Try.prog 18 #[.slice A8 out.length c8, .slice A7 m c7] w2 (fun e w3 => ∃ T ds', e = .returned (.tuple #[.pointer (some ⟨T.b, 0, none⟩), .int .i64 0]) ∧ Brd w w3 A8 A7 out C T ds') := by
  obtain ⟨C, h1, h2, -, -, h3⟩ := brd_new2 h25 hg f1 h27 hrl hso f2
  exact ⟨C, h1, h2, (h3 w2 (Fr.refl _ _)).mono fun _ _ ⟨T, ds', a, b, _⟩ => ⟨T, ds', a, b⟩⟩
end Go.Proofs.Ytdocdgghphhdpaa

