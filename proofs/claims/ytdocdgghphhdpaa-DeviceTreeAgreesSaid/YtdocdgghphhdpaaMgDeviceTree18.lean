/- Rails, devices and the tree, the rows' bases apart. -/
import Derived.Test.YtdocdgghphhdpaaMgDeviceTree17
import Derived.Test.YtdocdgghphhdpaaMgDeviceTree4
import Derived.Test.YtdocdgghphhdpaaMgDeviceTree14
import Derived.Test.YtdocdgghphhdpaaMgDeviceTree7
namespace Go.Proofs.Ytdocdgghphhdpaa
open Go.RowKit

/-- What turned lies below. -/
theorem TrAt.frUnder {w w' : World} {T : TP} {ds : List DV} {C : TC} {s : TSt} {S : List Nat} {base : Nat} (h : TrAt w T ds C s) (hn : ∀ g ∈ T.wr, base ≤ g) (hh : TrHi T ds base) (k : Fr S w w') (hS : ∀ g ∈ S, g < base) : TrAt w' T ds C s where
  blk := h.blk.fr k (fun hm => by have := hS _ hm; have := hn T.b (by simp [TP.wr]); omega)
  dv := h.dv.frOff k (fun ad e hm => by have := hS _ hm; have := hh.1 ad e; omega) (fun x hx q hq g hg hm => by have := hS _ hm; have := hh.2.1 x hx q hq g hg; omega)
  len := h.len
  tie := h.tie
  sS := fun h0 => ⟨(h.sS h0).1, (h.sS h0).2.fr k (fun hm => by have := hS _ hm; have := hn T.gS (by simp [TP.wr]); omega)⟩
  rl := h.rl.fr k (fun g hg => by
    have := hS g hg
    have h1 := hn T.pr.b (by simp [TP.wr])
    have h2 := hn T.pr.gB (by simp [TP.wr])
    have h3 := hn T.pr.gC (by simp [TP.wr])
    exact ⟨by omega, by omega, by omega, fun ad e => by have := hh.2.2 ad e; omega⟩)
  pn := h.pn
  offA := h.offA
  offR := h.offR
  sepS := h.sepS
  sepA := h.sepA
  low := h.low.mono k.size
theorem brd_new4 {w w2 : World} {b7 b8 : Nat} {A8 A7 : Option Addr} {c8 c7 m : Nat} {R : Nat → RailD} {rk : Nat → Nat} {raw out : List DV} (h25 : w2.ownsRow b7 49 3 (.slice A7 m c7) m (rlcs R m)) (hg : Good25 m R rk) (f : Fr [] w w2)
    (h27 : w2.ownsRow b8 46 13 (.slice A8 out.length c8) out.length (dvcs out)) (hrl : ∀ x ∈ out, OwnRails w2 b8 x.d x.rl) (hso : SomeTo raw out m (min raw.length 6)) :
    ∃ C : TC, C.n = m ∧ out.length = C.nd ∧ (∀ i x, out[i]? = some x → x.d.par = C.par i ∧ x.rl = C.rl i) ∧ TOk C ∧ ∀ w2', Fr [] w2 w2' → Calls Try.prog 18 #[.slice A8 out.length c8, .slice A7 m c7] w2' (fun e w3 => ∃ T ds', e = .returned (.tuple #[.pointer (some ⟨T.b, 0, none⟩), .int .i64 0]) ∧ Brd w w3 A8 A7 out C T ds' ∧ Fr [] w2' w3 ∧ (∀ g ∈ T.wr, w2'.heap.size ≤ g) ∧ TrHi T ds' w2'.heap.size) := by
  have hsok := someOk_of hso
  obtain ⟨ch, hch⟩ := good_ch hg
  have hn8 := hg.n8
  have hok := mkTC_ok hsok hn8 hch
  have h6 := hsok.len
  obtain ⟨A8', c8', e8, -, hr8, hb8⟩ := own_slice h27
  injection e8 with e8 _ e8c
  subst e8 e8c
  have h25' := h25
  obtain ⟨A7', c7', e7, hn7, hr7, hb7⟩ := own_slice h25'
  injection e7 with e7 _ e7c
  subst e7 e7c
  have hdv : DvsAt w2 A8 out := ⟨hr8, fun x hx => (hrl x hx).at_⟩
  have hbk : ∀ x ∈ out, ∀ q, q < 4 → ∀ ad n c, x.d.rf q = .slice (some ad) n c → ad.block < w2.heap.size := fun x hx q hq ad n c e => (own_block (hrl x hx q hq) (by rw [e]; rfl)).2.1
  refine ⟨mkTC out m R ch, rfl, rfl, mkTC_tie out m R ch, hok, fun w2' hfx => (dnew_any A8 c8 out A7 c7 (mkTC out m R ch) w2' (hdv.fr0 hfx) (fun x hx k => ?_) (by unfold maxLen; omega) (fun x hx q hq n c e => ?_) rfl (mkTC_tie out m R ch) (hr7.fr0 hfx) (fun e => ?_) (by show m ≤ maxLen; unfold maxLen; omega)).mono ?_⟩
  · obtain ⟨i, hi⟩ := List.getElem?_of_mem hx
    obtain ⟨r, rf, rfl⟩ := hsok.el i x hi
    have := (someRl_ok r m k).2.2
    show (someRl r m k).length ≤ 4096
    omega
  · rcases (hrl x hx q hq).2 with ⟨h0, h1⟩ | ⟨g, cap, cur, hv, _⟩
    · rw [h0] at e
      injection e with _ _ e
      exact e.symm
    · rw [hv] at e
      injection e with e
      cases e
  · rcases h25'.2 with ⟨h0, h1⟩ | ⟨g, cap, cur, hv, _⟩
    · injection h0 with _ a b
      exact ⟨b, h1⟩
    · injection hv with hv
      rw [e] at hv
      cases hv
  · rintro e w3 ⟨hf3, ⟨hne, -⟩ | ⟨-, T, ds', rfl, hat, hnew, hhi⟩⟩
    · exact absurd (good_new hsok hg) hne
    have hnew2 := hnew
    refine ⟨T, ds', rfl, ?_, hf3, fun g hg => by
      obtain ⟨n1, n2, n3, n4, n5⟩ := hnew2
      simp only [TP.wr, List.mem_cons, List.not_mem_nil, or_false] at hg
      omega, hhi⟩
    have hsx := hfx.size
    have hge : ∀ g ∈ T.wr, w2.heap.size ≤ g := fun g hg => by
      obtain ⟨n1, n2, n3, n4, n5⟩ := hnew
      simp only [TP.wr, List.mem_cons, List.not_mem_nil, or_false] at hg
      omega
    have hlt : ∀ g ∈ T.wr, g < w3.heap.size := fun g hg => by
      have hlw := hat.low
      obtain ⟨h1, h2, ⟨h3, h4, h5, -⟩, -, -⟩ := hlw
      simp only [TP.wr, List.mem_cons, List.not_mem_nil, or_false] at hg
      omega
    have hs1 := f.size
    refine ⟨hsok, rfl, hn8, h6, mkTC_tie out m R ch, hok, hg.lim, ⟨rk, hg.rank, hg.rk8⟩, hat, (f.call hfx).call hf3, fun g hg => ⟨Nat.le_trans hs1 (hge g hg), hlt g hg⟩, fun w' k => ?_⟩
    have hd3 := (hdv.fr0 hfx).fr0 hf3
    refine ⟨⟨row_out hd3.1 k (fun ad e hm => ?_), fun x hx => ?_⟩, row_out ((hr7.fr0 hfx).fr0 hf3) k (fun ad e hm => ?_)⟩
    · have := (hb8 ad e).2
      have := hge _ hm
      omega
    · intro q hq
      obtain ⟨A, cp, e, hr⟩ := hd3.2 x hx q hq
      refine ⟨A, cp, e, row_out hr k (fun ad ea hm => ?_)⟩
      subst ea
      have := hbk x hx q hq ad _ _ e
      have := hge _ hm
      omega
    · have := (hb7 ad e).2
      have := hge _ hm
      omega
end Go.Proofs.Ytdocdgghphhdpaa

/- The reference's rails in memory. (Written by a program.) -/
namespace Go.Proofs.Ytdocdgghphhdpaa
open Go.RowKit

/-- The rails lie in memory. -/
structure RqAt (w : World) (P : RP) (R : Nat → RailD) (s : RSt) : Prop where
  blk : Blk w P.b 129 #[.slice P.A P.n P.ca, .slice (some ⟨P.gB, 0, none⟩) P.n P.cb, .slice (some ⟨P.gC, 0, none⟩) P.n P.cc, rv s.clk]
  row : Row w P.A (rlcs R P.n)
  cnt : FA w P.gB 3 nv P.n s.cnt
  dn : FA w P.gC 33 rv P.n s.dn
  off : Off P.A [P.b, P.gB, P.gC]
  low : ∀ ad, P.A = some ad → ad.block < w.heap.size
  n64 : P.n ≤ 64
section
variable {w w' : World} {P : RP} {R : Nat → RailD} {s : RSt} {S : List Nat}
theorem RqAt.ne (h : RqAt w P R s) : P.b ≠ P.gB ∧ P.b ≠ P.gC ∧ P.gB ≠ P.gC :=
  ⟨Blk.ne_ h.blk h.cnt (by decide), Blk.ne_ h.blk h.dn (by decide), Blk.ne_ h.cnt h.dn (by decide)⟩
theorem RqAt.lt (h : RqAt w P R s) : P.b < w.heap.size ∧ P.gB < w.heap.size ∧ P.gC < w.heap.size := ⟨h.blk.lt, h.cnt.lt, h.dn.lt⟩
theorem RqAt.fr (h : RqAt w P R s) (k : Fr S w w') (hS : ∀ g ∈ S, g ≠ P.b ∧ g ≠ P.gB ∧ g ≠ P.gC ∧ ∀ ad, P.A = some ad → g ≠ ad.block) : RqAt w' P R s where
  blk := h.blk.fr k (fun hm => (hS _ hm).1 rfl)
  row := h.row.fr k (fun ad e hm => (hS _ hm).2.2.2 ad e rfl)
  cnt := h.cnt.fr k (fun hm => (hS _ hm).2.1 rfl)
  dn := h.dn.fr k (fun hm => (hS _ hm).2.2.1 rfl)
  off := h.off
  low := fun ad e => Nat.lt_of_lt_of_le (h.low ad e) k.size
  n64 := h.n64
theorem RqAt.fr0 (h : RqAt w P R s) (k : Fr [] w w') : RqAt w' P R s := h.fr k (fun _ hm => by cases hm)
theorem RqAt.lowAt (h : RqAt w P R s) : RlLow P w.heap.size := ⟨h.lt.1, h.lt.2.1, h.lt.2.2, h.low⟩
theorem RqAt.frGe (h : RqAt w P R s) (k : Fr S w w') {base : Nat} (hl : RlLow P base) (hS : ∀ g ∈ S, base ≤ g) : RqAt w' P R s :=
  h.fr k (fun g hg => by
    obtain ⟨h1, h2, h3, h4⟩ := hl
    have := hS g hg
    refine ⟨by omega, by omega, by omega, fun ad e => ?_⟩
    have := h4 ad e
    omega)
theorem RqAt.setCnt (h : RqAt w P R s) (k v : Nat) : RqAt (w.setCell ⟨P.gB, k, none⟩ (.int .i64 (v : Int))) P R { s with cnt := rup s.cnt k v } where
  blk := h.blk.far h.ne.1 _
  row := h.row.fr ((Fr.refl [P.gB] _).set (.inl (by simp)) _) (fun ad e hm => h.off ad e (by simp at hm; simp [hm]))
  cnt := h.cnt.set_ k v
  dn := h.dn.far h.ne.2.2.symm _
  off := h.off
  low := fun ad e => by simpa [World.setCell] using h.low ad e
  n64 := h.n64
theorem RqAt.setDn (h : RqAt w P R s) (k v : Nat) : RqAt (w.setCell ⟨P.gC, k, none⟩ (.int .u64 (v : Int))) P R { s with dn := rup s.dn k v } where
  blk := h.blk.far h.ne.2.1 _
  row := h.row.fr ((Fr.refl [P.gC] _).set (.inl (by simp)) _) (fun ad e hm => h.off ad e (by simp at hm; simp [hm]))
  cnt := h.cnt.far h.ne.2.2 _
  dn := h.dn.set_ k v
  off := h.off
  low := fun ad e => by simpa [World.setCell] using h.low ad e
  n64 := h.n64
theorem RqAt.setClk (h : RqAt w P R s) (v : Nat) : RqAt (w.setCell ⟨P.b, 3, none⟩ (.int .u64 (v : Int))) P R { s with clk := v } where
  blk := h.blk.set_ 3 _
  row := h.row.fr ((Fr.refl [P.b] _).set (.inl (by simp)) _) (fun ad e hm => h.off ad e (by simp at hm; simp [hm]))
  cnt := h.cnt.far h.ne.1.symm _
  dn := h.dn.far h.ne.2.1.symm _
  off := h.off
  low := fun ad e => by simpa [World.setCell] using h.low ad e
  n64 := h.n64
theorem RqAt.cells (h : RqAt w P R s) : w.cell? ⟨P.b, 0, none⟩ = some (.slice P.A P.n P.ca) ∧ w.cell? ⟨P.b, 1, none⟩ = some (.slice (some ⟨P.gB, 0, none⟩) P.n P.cb) ∧ w.cell? ⟨P.b, 2, none⟩ = some (.slice (some ⟨P.gC, 0, none⟩) P.n P.cc) ∧ w.cell? ⟨P.b, 3, none⟩ = some (.int .u64 (s.clk : Int)) :=
  ⟨h.blk.cell 0, h.blk.cell 1, h.blk.cell 2, h.blk.cell 3⟩
theorem RqAt.cntAt (h : RqAt w P R s) {k : Nat} (hk : k < P.n) : w.cell? ⟨P.gB, k, none⟩ = some (.int .i64 (s.cnt k : Int)) := h.cnt.cell hk
theorem RqAt.dnAt (h : RqAt w P R s) {k : Nat} (hk : k < P.n) : w.cell? ⟨P.gC, k, none⟩ = some (.int .u64 (s.dn k : Int)) := h.dn.cell hk
theorem RqAt.rail (h : RqAt w P R s) {k : Nat} (hk : k < P.n) : ∃ ob oo, P.A = some ⟨ob, oo, none⟩ ∧ w.cell? ⟨ob, oo + k * 3, none⟩ = some (.int .i64 (R k).sup) ∧ w.cell? ⟨ob, oo + k * 3 + 1, none⟩ = some (.int .u64 ((R k).up : Int)) ∧ w.cell? ⟨ob, oo + k * 3 + 2, none⟩ = some (.int .u64 ((R k).dn : Int)) := by
  obtain ⟨ob, oo, e, hc⟩ := Row.el (f := fun i => rlc (R i)) (l := List.range P.n) (i := k) (a := k) (fun i => rlc_len (R i)) (by omega) h.row (by simp [hk])
  exact ⟨ob, oo, e, hc 0 _ rfl, hc 1 _ rfl, hc 2 _ rfl⟩
end
end Go.Proofs.Ytdocdgghphhdpaa

/- The reference's device tree in memory. (Written by a program.) -/
namespace Go.Proofs.Ytdocdgghphhdpaa
open Go.RowKit

structure TqAt (w : World) (T : TP) (ds : List DV) (C : TC) (s : TSt) : Prop where
  blk : Blk w T.b 61 #[.slice T.A C.nd T.cA, .pointer (some ⟨T.pr.b, 0, none⟩), .slice T.S C.nd T.cS, rv s.clk]
  dv : DvsAt w T.A ds
  len : ds.length = C.nd
  tie : ∀ i x, ds[i]? = some x → x.d.par = C.par i ∧ x.rl = C.rl i
  sS : 0 < C.nd → T.S = some ⟨T.gS, 0, none⟩ ∧ OwnR w T.gS 3 (stCells s.st C.nd)
  rl : RqAt w T.pr C.R s.r
  pn : T.pr.n = C.n
  offA : Off T.A T.wr
  offR : ∀ x ∈ ds, ∀ q, q < 4 → ∀ g, (x.d.rf q).ownBlock = some g → g ∉ T.wr
  sepS : T.gS ≠ T.pr.gB ∧ T.gS ≠ T.pr.b ∧ T.gS ≠ T.pr.gC
  sepA : ∀ ad, T.pr.A = some ad → ad.block ≠ T.b ∧ ad.block ≠ T.gS
  low : TrLow T ds w.heap.size
section
variable {w w' : World} {T : TP} {ds : List DV} {C : TC} {s : TSt} {S : List Nat}
theorem TqAt.ne (h : TqAt w T ds C s) : T.b ≠ T.pr.b ∧ T.b ≠ T.pr.gB ∧ T.b ≠ T.pr.gC := ⟨Blk.ne_ h.blk h.rl.blk (by decide), Blk.ne_ h.blk h.rl.cnt (by decide), Blk.ne_ h.blk h.rl.dn (by decide)⟩
theorem TqAt.fr0 (h : TqAt w T ds C s) (k : Fr [] w w') : TqAt w' T ds C s where
  blk := h.blk.fr k (by simp)
  dv := h.dv.fr0 k
  len := h.len
  tie := h.tie
  sS := fun hn => ⟨(h.sS hn).1, (h.sS hn).2.fr0 k⟩
  rl := h.rl.fr0 k
  pn := h.pn
  offA := h.offA
  offR := h.offR
  sepS := h.sepS
  sepA := h.sepA
  low := h.low.mono k.size
/-- The rails turned. -/
theorem TqAt.rails (h : TqAt w T ds C s) {r : RSt} (k : Fr [T.pr.b, T.pr.gB, T.pr.gC] w w') (hr : RqAt w' T.pr C.R r) : TqAt w' T ds C { s with r := r } where
  blk := h.blk.fr k (by have := h.ne; simp; omega)
  dv := h.dv.frOff k (fun ad e hm => h.offA ad e (by simp at hm; simp [TP.wr]; omega)) (fun x hx q hq g hg hm => h.offR x hx q hq g hg (by simp at hm; simp [TP.wr]; omega))
  len := h.len
  tie := h.tie
  sS := fun hn => ⟨(h.sS hn).1, (h.sS hn).2.fr k (by have := h.sepS; simp; omega)⟩
  rl := hr
  pn := h.pn
  offA := h.offA
  offR := h.offR
  sepS := h.sepS
  sepA := h.sepA
  low := h.low.mono k.size
theorem TqAt.neS (h : TqAt w T ds C s) (hn : 0 < C.nd) : T.b ≠ T.gS := by
  obtain ⟨cur, h1, _⟩ := (h.sS hn).2
  exact Blk.ne_ h.blk h1 (by decide)
theorem TqAt.setSt (h : TqAt w T ds C s) (hn : 0 < C.nd) (d k : Nat) : TqAt (w.setCell ⟨T.gS, d, none⟩ (.int .i64 (k : Int))) T ds C { s with st := rup s.st d k } where
  blk := h.blk.far (h.neS hn) _
  dv := h.dv.frOff (S := [T.gS]) ((Fr.refl _ _).set (.inl (by simp)) _) (fun ad e hm => h.offA ad e (by simp at hm; simp [TP.wr, hm])) (fun x hx q hq g hg hm => h.offR x hx q hq g hg (by simp at hm; simp [TP.wr, hm]))
  len := h.len
  tie := h.tie
  sS := fun _ => ⟨(h.sS hn).1, by
    rw [← stCells_set]
    exact (h.sS hn).2.set_ d (nv k)⟩
  rl := h.rl.fr (S := [T.gS]) ((Fr.refl _ _).set (.inl (by simp)) _) (fun g hg => by
    have h1 := h.sepS
    have : g = T.gS := by simpa using hg
    subst this
    exact ⟨h1.2.1, h1.1, h1.2.2, fun ad e => (h.sepA ad e).2.symm⟩)
  pn := h.pn
  offA := h.offA
  offR := h.offR
  sepS := h.sepS
  sepA := h.sepA
  low := h.low.mono (by simp [World.setCell])
theorem TqAt.setClk (h : TqAt w T ds C s) (c : Nat) : TqAt (w.setCell ⟨T.b, 3, none⟩ (.int .u64 (c : Int))) T ds C { s with clk := c } where
  blk := h.blk.set_ 3 _
  dv := h.dv.frOff (S := [T.b]) ((Fr.refl _ _).set (.inl (by simp)) _) (fun ad e hm => h.offA ad e (by simp at hm; simp [TP.wr, hm])) (fun x hx q hq g hg hm => h.offR x hx q hq g hg (by simp at hm; simp [TP.wr, hm]))
  len := h.len
  tie := h.tie
  sS := fun hn => ⟨(h.sS hn).1, (h.sS hn).2.fr (S := [T.b]) ((Fr.refl _ _).set (.inl (by simp)) _) (by have := h.neS hn; simp; omega)⟩
  rl := h.rl.fr (S := [T.b]) ((Fr.refl _ _).set (.inl (by simp)) _) (fun g hg => by
    have h1 := h.ne
    have : g = T.b := by simpa using hg
    subst this
    exact ⟨h1.1, h1.2.1, h1.2.2, fun ad e => (h.sepA ad e).1.symm⟩)
  pn := h.pn
  offA := h.offA
  offR := h.offR
  sepS := h.sepS
  sepA := h.sepA
  low := h.low.mono (by simp [World.setCell])
/-- What turned lies above. -/
theorem TqAt.frGe (h : TqAt w T ds C s) {base : Nat} (hl : TrLow T ds base) (k : Fr S w w') (hS : ∀ g ∈ S, base ≤ g) : TqAt w' T ds C s where
  blk := h.blk.fr k (fun hm => by have := hS _ hm; have := hl.b; omega)
  dv := h.dv.frOff k (fun ad e hm => by have := hS _ hm; have := hl.A ad e; omega) (fun x hx q hq g hg hm => by have := hS _ hm; have := hl.R x hx q hq g hg; omega)
  len := h.len
  tie := h.tie
  sS := fun hn => ⟨(h.sS hn).1, (h.sS hn).2.fr k (fun hm => by have := hS _ hm; have := hl.gS; omega)⟩
  rl := h.rl.frGe k hl.pr hS
  pn := h.pn
  offA := h.offA
  offR := h.offR
  sepS := h.sepS
  sepA := h.sepA
  low := h.low.mono k.size
theorem TqAt.cells (h : TqAt w T ds C s) : w.cell? ⟨T.b, 0, none⟩ = some (.slice T.A C.nd T.cA) ∧ w.cell? ⟨T.b, 1, none⟩ = some (.pointer (some ⟨T.pr.b, 0, none⟩)) ∧ w.cell? ⟨T.b, 2, none⟩ = some (.slice T.S C.nd T.cS) ∧ w.cell? ⟨T.b, 3, none⟩ = some (.int .u64 (s.clk : Int)) :=
  ⟨h.blk.cell 0, h.blk.cell 1, h.blk.cell 2, h.blk.cell 3⟩
theorem TqAt.stAt (h : TqAt w T ds C s) {i : Nat} (hi : i < C.nd) : w.cell? ⟨T.gS, i, none⟩ = some (.int .i64 (s.st i : Int)) := (h.sS (by omega)).2.cell (stCells_get hi)
theorem TqAt.dev (h : TqAt w T ds C s) {i : Nat} (hi : i < C.nd) : ∃ x, ds[i]? = some x ∧ x.d.par = C.par i ∧ x.rl = C.rl i ∧ RailsAt w x.d x.rl ∧ ∃ ob oo, T.A = some ⟨ob, oo, none⟩ ∧ PDat w ob (oo + i * 13) x.d := by
  have hl : i < ds.length := by rw [h.len]; exact hi
  refine ⟨ds[i], List.getElem?_eq_getElem hl, (h.tie i _ (List.getElem?_eq_getElem hl)).1, (h.tie i _ (List.getElem?_eq_getElem hl)).2, h.dv.2 _ (List.getElem_mem hl), ?_⟩
  exact h.dv.el (List.getElem?_eq_getElem hl)
end
end Go.Proofs.Ytdocdgghphhdpaa

