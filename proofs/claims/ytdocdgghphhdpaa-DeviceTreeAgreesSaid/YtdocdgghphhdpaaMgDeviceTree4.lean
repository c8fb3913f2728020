/- A row that the walk owns, known by the list that its block begins with. -/
import Derived.Test.YtdocdgghphhdpaaBase
import Derived.Test.YtdocdgghphhdpaaRlM
import Derived.Test.YtdocdgghphhdpaaMgDeviceTree0
import Derived.Test.YtdocdgghphhdpaaMgDeviceTree2
namespace Go.Proofs.Ytdocdgghphhdpaa
open Go.RowKit
/-- The list lies at the beginning of a block's cells. -/
def Pre (cur : Array Value) (xs : List Value) : Prop := ∀ (i : Nat) (u : Value), xs[i]? = some u → cur[i]? = some u
theorem Pre.set_ {cur : Array Value} {xs : List Value} (h : Pre cur xs) (i : Nat) (u : Value) : Pre (cur.setIfInBounds i u) (xs.set i u) := by
  intro j v hv
  rw [List.getElem?_set] at hv
  rw [Array.getElem?_setIfInBounds]
  by_cases e : i = j
  · rw [if_pos e] at hv ⊢
    by_cases e2 : i < xs.length
    · have h1 := h i _ (List.getElem?_eq_getElem e2)
      have h2 : i < cur.size := (Array.getElem?_eq_some_iff.1 h1).1
      rw [if_pos e2] at hv
      rw [if_pos h2]
      exact hv
    · rw [if_neg e2] at hv
      cases hv
  · rw [if_neg e] at hv ⊢
    exact h j v hv
/-- A block whose cells begin with the list. -/
def OwnR (w : World) (g : Nat) (t : TypeId) (xs : List Value) : Prop := ∃ cur, Blk w g t cur ∧ Pre cur xs
section
variable {w w' : World} {g : Nat} {t : TypeId} {xs : List Value} {S : List Nat}
theorem OwnR.lt (h : OwnR w g t xs) : g < w.heap.size := by
  obtain ⟨cur, h1, _⟩ := h
  exact h1.lt
theorem OwnR.cell (h : OwnR w g t xs) {i : Nat} {u : Value} (hi : xs[i]? = some u) : w.cell? ⟨g, i, none⟩ = some u := by
  obtain ⟨cur, h1, h2⟩ := h
  exact (h1.cell i).trans (h2 i u hi)
theorem OwnR.frozen (h : OwnR w g t xs) (i : Nat) : w.frozen? ⟨g, i, none⟩ = false := by
  obtain ⟨cur, h1, _⟩ := h
  exact h1.frozen i
theorem OwnR.set_ (h : OwnR w g t xs) (i : Nat) (u : Value) : OwnR (w.setCell ⟨g, i, none⟩ u) g t (xs.set i u) := by
  obtain ⟨cur, h1, h2⟩ := h
  exact ⟨_, h1.set_ i u, h2.set_ i u⟩
theorem OwnR.fr0 (h : OwnR w g t xs) (k : Fr [] w w') : OwnR w' g t xs := by
  obtain ⟨cur, h1, h2⟩ := h
  exact ⟨cur, h1.fr k (by simp), h2⟩
theorem OwnR.row (h : OwnR w g t xs) : Row w (some ⟨g, 0, none⟩) xs := fun _ => ⟨g, 0, rfl, fun i u hi => by
  rw [Nat.zero_add]
  exact h.cell hi⟩
theorem OwnR.drop (h : OwnR w g t xs) (m : Nat) : Row w (some ⟨g, m, none⟩) (xs.drop m) := fun _ => ⟨g, m, rfl, fun i u hi => by
  rw [List.getElem?_drop] at hi
  exact h.cell hi⟩
theorem own_cut {base : Nat} {size : Nat} {v : Value} {n : Nat} (h : w.ownsRow base t size v n xs) (hn : 0 < n) :
    ∃ g cp, v = .slice (some ⟨g, 0, none⟩) n cp ∧ n ≤ cp ∧ base ≤ g ∧ OwnR w g t xs := by
  have hl := h.1
  rcases h.2 with ⟨h0, h1⟩ | ⟨g, cap, cur, hv, hb, hh, hnc, _, hcur, hx⟩
  · omega
  · refine ⟨g, cap, hv, hnc, hb, cur, hh, fun i u hi => ?_⟩
    rw [← hx, List.getElem?_take] at hi
    split at hi
    · simpa using hi
    · cases hi
end
end Go.Proofs.Ytdocdgghphhdpaa

/- Rails in memory. -/
namespace Go.Proofs.Ytdocdgghphhdpaa
open Go.RowKit

abbrev rv (n : Nat) : Value := .int .u64 (n : Int)
/-- Only blocks of T and blocks from base on may have turned. -/
def FrX (T : List Nat) (base : Nat) (w w' : World) : Prop := ∃ S : List Nat, (∀ y ∈ S, y ∈ T ∨ base ≤ y) ∧ Fr S w w'
section
variable {T T' : List Nat} {base : Nat} {a w w' : World}
theorem FrX.of_fr (h : Fr [] w w') : FrX T base w w' := ⟨[], by simp, h⟩
theorem FrX.refl (T : List Nat) (base : Nat) (w : World) : FrX T base w w := .of_fr (Fr.refl _ _)
theorem FrX.trans (h : FrX T base a w) (k : FrX T base w w') : FrX T base a w' := by
  obtain ⟨S, hs, hf⟩ := h
  obtain ⟨S', hs', hf'⟩ := k
  refine ⟨S ++ S', fun y hy => ?_, (hf.mono (fun _ _ h => List.mem_append_left _ h)).trans (hf'.mono (fun _ _ h => List.mem_append_right _ h))⟩
  rcases List.mem_append.1 hy with h1 | h1
  · exact hs y h1
  · exact hs' y h1
theorem FrX.call (h : FrX T base a w) (k : Fr [] w w') : FrX T base a w' := h.trans (.of_fr k)
theorem FrX.mono (h : FrX T base w w') (hT : ∀ y ∈ T, y ∈ T') : FrX T' base w w' := by
  obtain ⟨S, hs, hf⟩ := h
  exact ⟨S, fun y hy => (hs y hy).imp_left (hT y), hf⟩
theorem FrX.low (h : FrX T base w w') {b : Nat} (hb : b ≤ base) : FrX T b w w' := by
  obtain ⟨S, hs, hf⟩ := h
  exact ⟨S, fun y hy => (hs y hy).imp_right (fun h => Nat.le_trans hb h), hf⟩
theorem FrX.set (h : FrX T base a w) {p : Addr} (hp : p.block ∈ T) (u : Value) : FrX T base a (w.setCell p u) :=
  h.trans ⟨[p.block], fun y hy => .inl (by rw [List.mem_singleton.1 hy]; exact hp), (Fr.refl _ _).set (.inl (by simp)) _⟩
theorem FrX.size (h : FrX T base w w') : w.heap.size ≤ w'.heap.size := by
  obtain ⟨S, _, hf⟩ := h
  exact hf.size
/-- What lies below base and off T stands. -/
theorem FrX.stand (h : FrX T base w w') {g : Nat} {t : TypeId} {cs : Array Value} (hb : Blk w g t cs) (hg : g < base) (hT : g ∉ T) : Blk w' g t cs := by
  obtain ⟨S, hs, hf⟩ := h
  exact hb.fr hf (fun hm => (hs g hm).elim hT (fun h => by omega))
theorem FrX.row (h : FrX T base w w') {A : Option Addr} {xs : List Value} (hr : Row w A xs) (hlow : ∀ ad, A = some ad → ad.block < base ∧ ad.block ∉ T) : Row w' A xs := by
  obtain ⟨S, hs, hf⟩ := h
  refine hr.fr hf (fun ad e hm => ?_)
  obtain ⟨h1, h2⟩ := hlow ad e
  exact (hs _ hm).elim h2 (fun h => by omega)
theorem FrX.own (h : FrX T base w w') {b : Nat} {e : TypeId} {size n : Nat} {v : Value} {xs : List Value} (ho : w.ownsRow b e size v n xs) (hlow : ∀ g, v.ownBlock = some g → g < base ∧ g ∉ T) : w'.ownsRow b e size v n xs := by
  obtain ⟨S, hs, hf⟩ := h
  refine own_fr ho hf (fun g hg hm => ?_)
  obtain ⟨h1, h2⟩ := hlow g hg
  exact (hs _ hm).elim h2 (fun h => by omega)
theorem FrX.fr (h : FrX T base w w') (hb : w.heap.size ≤ base) : Fr T w w' := by
  obtain ⟨S, hs, hf⟩ := h
  exact hf.mono (fun k hk hm => (hs k hm).elim id (fun h => by omega))
end
structure RP where
  b : Nat
  A : Option Addr
  ca : Nat
  gB : Nat
  cb : Nat
  gC : Nat
  cc : Nat
  n : Nat
def rlc (x : RailD) : List Value := [.int .i64 x.sup, rv x.up, rv x.dn]
theorem rlc_len (x : RailD) : (rlc x).length = 3 := rfl
def rlcs (R : Nat → RailD) (n : Nat) : List Value := (List.range n).flatMap fun i => rlc (R i)
def ropc (x : ROp) : List Value := [.int .i64 (x.rail : Int), .bool x.on, rv x.st, rv x.dn]
def ropcs (l : List ROp) : List Value := l.flatMap ropc
theorem ropcs_snoc (l : List ROp) (x : ROp) : ropcs (l ++ [x]) = ropcs l ++ [.int .i64 (x.rail : Int), .bool x.on, rv x.st, rv x.dn] := by simp [ropcs, ropc]
/-- The rails lie in memory. -/
structure RlAt (w : World) (P : RP) (R : Nat → RailD) (s : RSt) : Prop where
  blk : Blk w P.b 176 #[.slice P.A P.n P.ca, .slice (some ⟨P.gB, 0, none⟩) P.n P.cb, .slice (some ⟨P.gC, 0, none⟩) P.n P.cc, rv s.clk]
  row : Row w P.A (rlcs R P.n)
  cnt : FA w P.gB 3 nv P.n s.cnt
  dn : FA w P.gC 33 rv P.n s.dn
  off : Off P.A [P.b, P.gB, P.gC]
  low : ∀ ad, P.A = some ad → ad.block < w.heap.size
  n64 : P.n ≤ 64
section
variable {w w' : World} {P : RP} {R : Nat → RailD} {s : RSt} {S : List Nat}
theorem RlAt.ne (h : RlAt w P R s) : P.b ≠ P.gB ∧ P.b ≠ P.gC ∧ P.gB ≠ P.gC :=
  ⟨Blk.ne_ h.blk h.cnt (by decide), Blk.ne_ h.blk h.dn (by decide), Blk.ne_ h.cnt h.dn (by decide)⟩
theorem RlAt.lt (h : RlAt w P R s) : P.b < w.heap.size ∧ P.gB < w.heap.size ∧ P.gC < w.heap.size := ⟨h.blk.lt, h.cnt.lt, h.dn.lt⟩
theorem RlAt.fr (h : RlAt w P R s) (k : Fr S w w') (hS : ∀ g ∈ S, g ≠ P.b ∧ g ≠ P.gB ∧ g ≠ P.gC ∧ ∀ ad, P.A = some ad → g ≠ ad.block) : RlAt w' P R s where
  blk := h.blk.fr k (fun hm => (hS _ hm).1 rfl)
  row := h.row.fr k (fun ad e hm => (hS _ hm).2.2.2 ad e rfl)
  cnt := h.cnt.fr k (fun hm => (hS _ hm).2.1 rfl)
  dn := h.dn.fr k (fun hm => (hS _ hm).2.2.1 rfl)
  off := h.off
  low := fun ad e => Nat.lt_of_lt_of_le (h.low ad e) k.size
  n64 := h.n64
theorem RlAt.fr0 (h : RlAt w P R s) (k : Fr [] w w') : RlAt w' P R s := h.fr k (fun _ hm => by cases hm)
/-- All blocks lie below base. -/
def RlLow (P : RP) (base : Nat) : Prop := P.b < base ∧ P.gB < base ∧ P.gC < base ∧ ∀ ad, P.A = some ad → ad.block < base
theorem RlAt.lowAt (h : RlAt w P R s) : RlLow P w.heap.size := ⟨h.lt.1, h.lt.2.1, h.lt.2.2, h.low⟩
theorem RlAt.frGe (h : RlAt w P R s) (k : Fr S w w') {base : Nat} (hl : RlLow P base) (hS : ∀ g ∈ S, base ≤ g) : RlAt w' P R s :=
  h.fr k (fun g hg => by
    obtain ⟨h1, h2, h3, h4⟩ := hl
    have := hS g hg
    refine ⟨by omega, by omega, by omega, fun ad e => ?_⟩
    have := h4 ad e
    omega)
theorem RlAt.setCnt (h : RlAt w P R s) (k v : Nat) : RlAt (w.setCell ⟨P.gB, k, none⟩ (.int .i64 (v : Int))) P R { s with cnt := rup s.cnt k v } where
  blk := h.blk.far h.ne.1 _
  row := h.row.fr ((Fr.refl [P.gB] _).set (.inl (by simp)) _) (fun ad e hm => h.off ad e (by simp at hm; simp [hm]))
  cnt := h.cnt.set_ k v
  dn := h.dn.far h.ne.2.2.symm _
  off := h.off
  low := fun ad e => by simpa [World.setCell] using h.low ad e
  n64 := h.n64
theorem RlAt.setDn (h : RlAt w P R s) (k v : Nat) : RlAt (w.setCell ⟨P.gC, k, none⟩ (.int .u64 (v : Int))) P R { s with dn := rup s.dn k v } where
  blk := h.blk.far h.ne.2.1 _
  row := h.row.fr ((Fr.refl [P.gC] _).set (.inl (by simp)) _) (fun ad e hm => h.off ad e (by simp at hm; simp [hm]))
  cnt := h.cnt.far h.ne.2.2 _
  dn := h.dn.set_ k v
  off := h.off
  low := fun ad e => by simpa [World.setCell] using h.low ad e
  n64 := h.n64
theorem RlAt.setClk (h : RlAt w P R s) (v : Nat) : RlAt (w.setCell ⟨P.b, 3, none⟩ (.int .u64 (v : Int))) P R { s with clk := v } where
  blk := h.blk.set_ 3 _
  row := h.row.fr ((Fr.refl [P.b] _).set (.inl (by simp)) _) (fun ad e hm => h.off ad e (by simp at hm; simp [hm]))
  cnt := h.cnt.far h.ne.1.symm _
  dn := h.dn.far h.ne.2.1.symm _
  off := h.off
  low := fun ad e => by simpa [World.setCell] using h.low ad e
  n64 := h.n64
theorem RlAt.cells (h : RlAt w P R s) : w.cell? ⟨P.b, 0, none⟩ = some (.slice P.A P.n P.ca) ∧ w.cell? ⟨P.b, 1, none⟩ = some (.slice (some ⟨P.gB, 0, none⟩) P.n P.cb) ∧ w.cell? ⟨P.b, 2, none⟩ = some (.slice (some ⟨P.gC, 0, none⟩) P.n P.cc) ∧ w.cell? ⟨P.b, 3, none⟩ = some (.int .u64 (s.clk : Int)) :=
  ⟨h.blk.cell 0, h.blk.cell 1, h.blk.cell 2, h.blk.cell 3⟩
theorem RlAt.cntAt (h : RlAt w P R s) {k : Nat} (hk : k < P.n) : w.cell? ⟨P.gB, k, none⟩ = some (.int .i64 (s.cnt k : Int)) := h.cnt.cell hk
theorem RlAt.dnAt (h : RlAt w P R s) {k : Nat} (hk : k < P.n) : w.cell? ⟨P.gC, k, none⟩ = some (.int .u64 (s.dn k : Int)) := h.dn.cell hk
theorem RlAt.rail (h : RlAt w P R s) {k : Nat} (hk : k < P.n) : ∃ ob oo, P.A = some ⟨ob, oo, none⟩ ∧ w.cell? ⟨ob, oo + k * 3, none⟩ = some (.int .i64 (R k).sup) ∧ w.cell? ⟨ob, oo + k * 3 + 1, none⟩ = some (.int .u64 ((R k).up : Int)) ∧ w.cell? ⟨ob, oo + k * 3 + 2, none⟩ = some (.int .u64 ((R k).dn : Int)) := by
  obtain ⟨ob, oo, e, hc⟩ := Row.el (f := fun i => rlc (R i)) (l := List.range P.n) (i := k) (a := k) (fun i => rlc_len (R i)) (by omega) h.row (by simp [hk])
  exact ⟨ob, oo, e, hc 0 _ rfl, hc 1 _ rfl, hc 2 _ rfl⟩
end
end Go.Proofs.Ytdocdgghphhdpaa

