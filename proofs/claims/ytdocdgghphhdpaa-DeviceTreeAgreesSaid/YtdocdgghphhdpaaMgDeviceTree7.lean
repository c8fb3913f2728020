/- The device tree in memory. -/
import Derived.Test.YtdocdgghphhdpaaTrMMg
import Derived.Test.YtdocdgghphhdpaaMgDeviceTree4
import Derived.Test.YtdocdgghphhdpaaRlW3Mg
import Derived.Test.YtdocdgghphhdpaaDevW12Mg
import Derived.Test.YtdocdgghphhdpaaMgDeviceTree0
namespace Go.Proofs.Ytdocdgghphhdpaa
open Go.RowKit

structure TP where
  b : Nat
  A : Option Addr
  cA : Nat
  S : Option Addr
  gS : Nat
  cS : Nat
  pr : RP
/-- The blocks that Set may turn. -/
def TP.wr (T : TP) : List Nat := [T.b, T.gS, T.pr.b, T.pr.gB, T.pr.gC]
def stCells (st : Nat → Nat) (nd : Nat) : List Value := (List.range nd).map fun i => nv (st i)
theorem stCells_get {st : Nat → Nat} {nd i : Nat} (h : i < nd) : (stCells st nd)[i]? = some (nv (st i)) := by simp [stCells, h]
theorem stCells_set {st : Nat → Nat} {nd d k : Nat} : (stCells st nd).set d (nv k) = stCells (rup st d k) nd := by
  apply List.ext_getElem?
  intro i
  rw [List.getElem?_set]
  by_cases hi : i < nd
  · by_cases e : d = i
    · subst e
      rw [if_pos rfl, stCells_get hi, rup_same]
      simp [stCells, hi]
    · rw [if_neg e, stCells_get hi, stCells_get hi, rup_other (fun h => e h.symm)]
  · have h1 : (stCells st nd)[i]? = none := List.getElem?_eq_none (by simp [stCells]; omega)
    have h2 : (stCells (rup st d k) nd)[i]? = none := List.getElem?_eq_none (by simp [stCells]; omega)
    rw [h1, h2]
    split
    · rename_i e
      subst e
      rw [if_neg (by simp [stCells]; omega)]
    · rfl
/-- All blocks of the tree lie below base. -/
structure TrLow (T : TP) (ds : List DV) (base : Nat) : Prop where
  b : T.b < base
  gS : T.gS < base
  pr : RlLow T.pr base
  A : ∀ ad, T.A = some ad → ad.block < base
  R : ∀ x ∈ ds, ∀ q, q < 4 → ∀ g, (x.d.rf q).ownBlock = some g → g < base
theorem TrLow.mono {T : TP} {ds : List DV} {b c : Nat} (h : TrLow T ds b) (hb : b ≤ c) : TrLow T ds c :=
  ⟨Nat.lt_of_lt_of_le h.b hb, Nat.lt_of_lt_of_le h.gS hb, ⟨Nat.lt_of_lt_of_le h.pr.1 hb, Nat.lt_of_lt_of_le h.pr.2.1 hb, Nat.lt_of_lt_of_le h.pr.2.2.1 hb, fun ad e => Nat.lt_of_lt_of_le (h.pr.2.2.2 ad e) hb⟩, fun ad e => Nat.lt_of_lt_of_le (h.A ad e) hb, fun x hx q hq g hg => Nat.lt_of_lt_of_le (h.R x hx q hq g hg) hb⟩
structure TrAt (w : World) (T : TP) (ds : List DV) (C : TC) (s : TSt) : Prop where
  blk : Blk w T.b 122 #[.slice T.A C.nd T.cA, .slice T.S C.nd T.cS, .pointer (some ⟨T.pr.b, 0, none⟩), rv s.clk]
  dv : DvsAt w T.A ds
  len : ds.length = C.nd
  tie : ∀ i x, ds[i]? = some x → x.d.par = C.par i ∧ x.rl = C.rl i
  sS : 0 < C.nd → T.S = some ⟨T.gS, 0, none⟩ ∧ OwnR w T.gS 3 (stCells s.st C.nd)
  rl : RlAt w T.pr C.R s.r
  pn : T.pr.n = C.n
  offA : Off T.A T.wr
  offR : ∀ x ∈ ds, ∀ q, q < 4 → ∀ g, (x.d.rf q).ownBlock = some g → g ∉ T.wr
  sepS : T.gS ≠ T.pr.gB ∧ T.gS ≠ T.pr.b ∧ T.gS ≠ T.pr.gC
  sepA : ∀ ad, T.pr.A = some ad → ad.block ≠ T.b ∧ ad.block ≠ T.gS
  low : TrLow T ds w.heap.size
section
variable {w w' : World} {T : TP} {ds : List DV} {C : TC} {s : TSt} {S : List Nat}
theorem DvsAt.frOff {A : Option Addr} {l : List DV} (h : DvsAt w A l) (k : Fr S w w') (ho : Off A S) (hr : ∀ x ∈ l, ∀ q, q < 4 → ∀ g, (x.d.rf q).ownBlock = some g → g ∉ S) : DvsAt w' A l :=
  ⟨h.1.fr k ho, fun x hx q hq => by
    obtain ⟨A, cp, e, hrow⟩ := h.2 x hx q hq
    exact ⟨A, cp, e, hrow.fr k (fun ad ea => hr x hx q hq _ (by rw [e, ea]; rfl))⟩⟩
theorem TrAt.ne (h : TrAt w T ds C s) : T.b ≠ T.pr.b ∧ T.b ≠ T.pr.gB ∧ T.b ≠ T.pr.gC := ⟨Blk.ne_ h.blk h.rl.blk (by decide), Blk.ne_ h.blk h.rl.cnt (by decide), Blk.ne_ h.blk h.rl.dn (by decide)⟩
theorem TrAt.fr0 (h : TrAt w T ds C s) (k : Fr [] w w') : TrAt w' T ds C s where
  blk := h.blk.fr k (by simp)
  dv := h.dv.fr0 k
  len := h.len
  tie := h.tie
  sS := fun hn => ⟨(h.sS hn).1, (h.sS hn).2.fr0 k⟩
  rl := h.rl.fr0 k
  pn := h.pn
  offA := h.offA
  offR := h.offR
  sepS := h.sepS
  sepA := h.sepA
  low := h.low.mono k.size
theorem OwnR.fr {g : Nat} {t : TypeId} {xs : List Value} (h : OwnR w g t xs) (k : Fr S w w') (hg : g ∉ S) : OwnR w' g t xs := by
  obtain ⟨cur, h1, h2⟩ := h
  exact ⟨cur, h1.fr k hg, h2⟩
/-- The rails turned. -/
theorem TrAt.rails (h : TrAt w T ds C s) {r : RSt} (k : Fr [T.pr.b, T.pr.gB, T.pr.gC] w w') (hr : RlAt w' T.pr C.R r) : TrAt w' T ds C { s with r := r } where
  blk := h.blk.fr k (by have := h.ne; simp; omega)
  dv := h.dv.frOff k (fun ad e hm => h.offA ad e (by simp at hm; simp [TP.wr]; omega)) (fun x hx q hq g hg hm => h.offR x hx q hq g hg (by simp at hm; simp [TP.wr]; omega))
  len := h.len
  tie := h.tie
  sS := fun hn => ⟨(h.sS hn).1, (h.sS hn).2.fr k (by have := h.sepS; simp; omega)⟩
  rl := hr
  pn := h.pn
  offA := h.offA
  offR := h.offR
  sepS := h.sepS
  sepA := h.sepA
  low := h.low.mono k.size
theorem TrAt.neS (h : TrAt w T ds C s) (hn : 0 < C.nd) : T.b ≠ T.gS := by
  obtain ⟨cur, h1, _⟩ := (h.sS hn).2
  exact Blk.ne_ h.blk h1 (by decide)
theorem TrAt.setSt (h : TrAt w T ds C s) (hn : 0 < C.nd) (d k : Nat) : TrAt (w.setCell ⟨T.gS, d, none⟩ (.int .i64 (k : Int))) T ds C { s with st := rup s.st d k } where
  blk := h.blk.far (h.neS hn) _
  dv := h.dv.frOff (S := [T.gS]) ((Fr.refl _ _).set (.inl (by simp)) _) (fun ad e hm => h.offA ad e (by simp at hm; simp [TP.wr, hm])) (fun x hx q hq g hg hm => h.offR x hx q hq g hg (by simp at hm; simp [TP.wr, hm]))
  len := h.len
  tie := h.tie
  sS := fun _ => ⟨(h.sS hn).1, by
    rw [← stCells_set]
    exact (h.sS hn).2.set_ d (nv k)⟩
  rl := h.rl.fr (S := [T.gS]) ((Fr.refl _ _).set (.inl (by simp)) _) (fun g hg => by
    have h1 := h.sepS
    have : g = T.gS := by simpa using hg
    subst this
    exact ⟨h1.2.1, h1.1, h1.2.2, fun ad e => (h.sepA ad e).2.symm⟩)
  pn := h.pn
  offA := h.offA
  offR := h.offR
  sepS := h.sepS
  sepA := h.sepA
  low := h.low.mono (by simp [World.setCell])
theorem TrAt.setClk (h : TrAt w T ds C s) (c : Nat) : TrAt (w.setCell ⟨T.b, 3, none⟩ (.int .u64 (c : Int))) T ds C { s with clk := c } where
  blk := h.blk.set_ 3 _
  dv := h.dv.frOff (S := [T.b]) ((Fr.refl _ _).set (.inl (by simp)) _) (fun ad e hm => h.offA ad e (by simp at hm; simp [TP.wr, hm])) (fun x hx q hq g hg hm => h.offR x hx q hq g hg (by simp at hm; simp [TP.wr, hm]))
  len := h.len
  tie := h.tie
  sS := fun hn => ⟨(h.sS hn).1, (h.sS hn).2.fr (S := [T.b]) ((Fr.refl _ _).set (.inl (by simp)) _) (by have := h.neS hn; simp; omega)⟩
  rl := h.rl.fr (S := [T.b]) ((Fr.refl _ _).set (.inl (by simp)) _) (fun g hg => by
    have h1 := h.ne
    have : g = T.b := by simpa using hg
    subst this
    exact ⟨h1.1, h1.2.1, h1.2.2, fun ad e => (h.sepA ad e).1.symm⟩)
  pn := h.pn
  offA := h.offA
  offR := h.offR
  sepS := h.sepS
  sepA := h.sepA
  low := h.low.mono (by simp [World.setCell])
/-- What turned lies above. -/
theorem TrAt.frGe (h : TrAt w T ds C s) {base : Nat} (hl : TrLow T ds base) (k : Fr S w w') (hS : ∀ g ∈ S, base ≤ g) : TrAt w' T ds C s where
  blk := h.blk.fr k (fun hm => by have := hS _ hm; have := hl.b; omega)
  dv := h.dv.frOff k (fun ad e hm => by have := hS _ hm; have := hl.A ad e; omega) (fun x hx q hq g hg hm => by have := hS _ hm; have := hl.R x hx q hq g hg; omega)
  len := h.len
  tie := h.tie
  sS := fun hn => ⟨(h.sS hn).1, (h.sS hn).2.fr k (fun hm => by have := hS _ hm; have := hl.gS; omega)⟩
  rl := h.rl.frGe k hl.pr hS
  pn := h.pn
  offA := h.offA
  offR := h.offR
  sepS := h.sepS
  sepA := h.sepA
  low := h.low.mono k.size
theorem TrAt.cells (h : TrAt w T ds C s) : w.cell? ⟨T.b, 0, none⟩ = some (.slice T.A C.nd T.cA) ∧ w.cell? ⟨T.b, 1, none⟩ = some (.slice T.S C.nd T.cS) ∧ w.cell? ⟨T.b, 2, none⟩ = some (.pointer (some ⟨T.pr.b, 0, none⟩)) ∧ w.cell? ⟨T.b, 3, none⟩ = some (.int .u64 (s.clk : Int)) :=
  ⟨h.blk.cell 0, h.blk.cell 1, h.blk.cell 2, h.blk.cell 3⟩
theorem TrAt.stAt (h : TrAt w T ds C s) {i : Nat} (hi : i < C.nd) : w.cell? ⟨T.gS, i, none⟩ = some (.int .i64 (s.st i : Int)) := (h.sS (by omega)).2.cell (stCells_get hi)
theorem TrAt.dev (h : TrAt w T ds C s) {i : Nat} (hi : i < C.nd) : ∃ x, ds[i]? = some x ∧ x.d.par = C.par i ∧ x.rl = C.rl i ∧ RailsAt w x.d x.rl ∧ ∃ ob oo, T.A = some ⟨ob, oo, none⟩ ∧ PDat w ob (oo + i * 13) x.d := by
  have hl : i < ds.length := by rw [h.len]; exact hi
  refine ⟨ds[i], List.getElem?_eq_getElem hl, (h.tie i _ (List.getElem?_eq_getElem hl)).1, (h.tie i _ (List.getElem?_eq_getElem hl)).2, h.dv.2 _ (List.getElem_mem hl), ?_⟩
  exact h.dv.el (List.getElem?_eq_getElem hl)
end
end Go.Proofs.Ytdocdgghphhdpaa

/- Walks: device.Tree: exists, State, Count. -/
namespace Go.Proofs.Ytdocdgghphhdpaa
open Go.RowKit

section
variable {w : World} {T : TP} {ds : List DV} {C : TC} {s : TSt}
set_option maxHeartbeats 4000000 in
theorem texists_any (h : TrAt w T ds C s) (k : Int) :
    Calls Try.prog 60 #[.pointer (some ⟨T.b, 0, none⟩), .int .i64 k] w fun e w' => e = .returned (.bool (decide (0 ≤ k ∧ k < (C.nd : Int)))) ∧ w = w' := by
  obtain ⟨c0, -, -, -⟩ := h.cells
  obtain ⟨B, hB⟩ : ∃ B, B = decide (0 ≤ k ∧ k < (C.nd : Int)) := ⟨_, rfl⟩
  have HB := hide hB
  by_cases h0 : 0 ≤ k
  · have b0 : decide (0 ≤ k) = true := decide_eq_true h0
    by_cases h1 : k < (C.nd : Int)
    · have b1 : decide (k < (C.nd : Int)) = true := decide_eq_true h1
      have HB2 : Hid (B = true) := hide (by rw [hB]; simp [h0, h1])
      clear hB h
      go_enter Try.func60, Try.ntmps60
      go_wp2
      go_ret
      exact ⟨ret_bool (by first | rfl | rw [← HB.out, HB2.out]), rfl⟩
    · have b1 : decide (k < (C.nd : Int)) = false := decide_eq_false h1
      have HB2 : Hid (B = false) := hide (by rw [hB]; simp [h1])
      clear hB h
      go_enter Try.func60, Try.ntmps60
      go_wp2
      go_ret
      exact ⟨ret_bool (by first | rfl | rw [← HB.out, HB2.out]), rfl⟩
  · have b0 : decide (0 ≤ k) = false := decide_eq_false h0
    have HB2 : Hid (B = false) := hide (by rw [hB]; simp [h0])
    clear hB h
    go_enter Try.func60, Try.ntmps60
    go_wp2
    go_ret
    exact ⟨ret_bool (by first | rfl | rw [← HB.out, HB2.out]), rfl⟩
def stI (C : TC) (s : TSt) (k : Int) : Int := if 0 ≤ k ∧ k < (C.nd : Int) then (s.st k.toNat : Int) else -1
set_option maxHeartbeats 4000000 in
theorem tstate_any (h : TrAt w T ds C s) (k : Int) :
    Calls Try.prog 21 #[.pointer (some ⟨T.b, 0, none⟩), .int .i64 k] w fun e w' => e = .returned (.int .i64 (stI C s k)) ∧ w = w' := by
  have HAT := hide h
  by_cases hk : 0 ≤ k ∧ k < (C.nd : Int)
  · obtain ⟨q, rfl⟩ := Int.eq_ofNat_of_zero_le hk.1
    have hq : q < C.nd := by omega
    obtain ⟨-, c1, -, -⟩ := h.cells
    rw [(h.sS (by omega)).1] at c1
    have d0 := h.stAt hq
    have hqi : (q : Int) < (C.nd : Int) := by omega
    have HE : Hid (stI C s (q : Int) = (s.st q : Int)) := hide (by rw [stI, if_pos hk, Int.toNat_natCast])
    have HB := hide (decide_eq_true hk)
    clear h hk
    go_enter Try.func21, Try.ntmps21
    go_wp2_with fail
    refine (texists_any HAT.out (q : Int)).mono ?_
    rintro e w1 ⟨rfl, rfl⟩
    rw [HB.out]
    go_wp2
    go_ret
    exact ⟨by rw [HE.out]; rfl, rfl⟩
  · have HE : Hid (stI C s k = -1) := hide (by rw [stI, if_neg hk])
    have HB := hide (decide_eq_false hk)
    clear h hk
    go_enter Try.func21, Try.ntmps21
    go_wp2_with fail
    refine (texists_any HAT.out k).mono ?_
    rintro e w1 ⟨rfl, rfl⟩
    rw [HB.out]
    go_wp2
    go_ret
    exact ⟨by rw [HE.out]; rfl, rfl⟩
set_option maxHeartbeats 4000000 in
theorem tcount_any (h : TrAt w T ds C s) (k : Int) :
    Calls Try.prog 22 #[.pointer (some ⟨T.b, 0, none⟩), .int .i64 k] w fun e w' => e = .returned (.int .i64 (cntI T.pr s.r k : Int)) ∧ w = w' := by
  obtain ⟨-, -, c2, -⟩ := h.cells
  have HR := hide h.rl
  clear h
  go_enter Try.func22, Try.ntmps22
  go_wp2_with fail
  refine (rcount_any HR.out k).mono ?_
  rintro e w1 ⟨rfl, rfl⟩
  go_wp2
  go_ret
  exact ⟨rfl, rfl⟩
end
end Go.Proofs.Ytdocdgghphhdpaa

/- The plain model of dependency graphs: what checkLinks, sequence and the reference's functions compute. No program is in sight here. -/
namespace Go.Proofs.Ytdocdgghphhdpaa

def LinkOk (n : Int) (p : Int × Int) : Prop := 0 ≤ p.1 ∧ p.1 < n ∧ 0 ≤ p.2 ∧ p.2 < n
instance (n : Int) (p : Int × Int) : Decidable (LinkOk n p) := by unfold LinkOk; infer_instance
def LinksOk (n : Int) (l : List (Int × Int)) : Prop := 0 ≤ n ∧ n ≤ 128 ∧ l.length ≤ 1024 ∧ ∀ p ∈ l, LinkOk n p
instance (n : Int) (l : List (Int × Int)) : Decidable (LinksOk n l) := by unfold LinksOk; infer_instance
/-- checkLinks, and the reference's Basic. -/
def basicM (n : Int) (l : List (Int × Int)) : Int := if LinksOk n l then (if l.Nodup then 0 else 7) else 1
theorem basicM_not {n : Int} {l : List (Int × Int)} (h : ¬ LinksOk n l) : basicM n l = 1 := by simp [basicM, h]
theorem basicM_dup {n : Int} {l : List (Int × Int)} (h : LinksOk n l) (hd : ¬ l.Nodup) : basicM n l = 7 := by simp [basicM, h, hd]
theorem basicM_ok {n : Int} {l : List (Int × Int)} (h : LinksOk n l) (hd : l.Nodup) : basicM n l = 0 := by simp [basicM, h, hd]
theorem basicM_zero {n : Int} {l : List (Int × Int)} (h : basicM n l = 0) : LinksOk n l ∧ l.Nodup := by
  unfold basicM at h
  split at h
  · split at h
    · exact ⟨by assumption, by assumption⟩
    · cases h
  · cases h
theorem take_succ_some {α : Type} {l : List α} {k : Nat} {p : α} (h : l[k]? = some p) : l.take (k + 1) = l.take k ++ [p] := by rw [List.take_add_one, h]; rfl
theorem split_at_some {α : Type} {l : List α} {k : Nat} {p : α} (h : l[k]? = some p) : l = l.take k ++ p :: l.drop (k + 1) := by
  obtain ⟨hl, e⟩ := List.getElem?_eq_some_iff.1 h
  rw [← e, ← List.drop_eq_getElem_cons hl, List.take_append_drop]
/-- A link's ends as natural numbers. -/
def toN (p : Int × Int) : Nat × Nat := (p.1.toNat, p.2.toNat)
def toNs (l : List (Int × Int)) : List (Nat × Nat) := l.map toN
def ends (cons : Bool) (p : Nat × Nat) : Nat × Nat := if cons then (p.2, p.1) else p
/-- The suppliers of v or, if cons is true, its consumers, in the order of the links. -/
def nb (cons : Bool) (L : List (Nat × Nat)) (v : Nat) : List Nat := (L.filter fun p => (ends cons p).1 == v).map fun p => (ends cons p).2
def nbs (cons : Bool) (n : Nat) (L : List (Nat × Nat)) : List (List Nat) := (List.range n).map (nb cons L)
theorem nbs_length (cons : Bool) (n : Nat) (L : List (Nat × Nat)) : (nbs cons n L).length = n := by simp [nbs]
theorem nbs_get (cons : Bool) {n v : Nat} (L : List (Nat × Nat)) (h : v < n) : (nbs cons n L)[v]? = some (nb cons L v) := by simp [nbs, h]
theorem nb_snoc (cons : Bool) (L : List (Nat × Nat)) (p : Nat × Nat) (v : Nat) : nb cons (L ++ [p]) v = if (ends cons p).1 = v then nb cons L v ++ [(ends cons p).2] else nb cons L v := by
  by_cases h : (ends cons p).1 = v <;> simp [nb, h]
theorem nbs_snoc (cons : Bool) (n : Nat) (L : List (Nat × Nat)) (p : Nat × Nat) : nbs cons n (L ++ [p]) = (nbs cons n L).set (ends cons p).1 (nb cons L (ends cons p).1 ++ [(ends cons p).2]) := by
  apply List.ext_getElem?
  intro i
  rw [List.getElem?_set]
  by_cases hi : i < n
  · rw [nbs_get cons _ hi, nb_snoc]
    by_cases h : (ends cons p).1 = i
    · simp [h, nbs_length, hi]
    · simp [h, nbs_get cons _ hi]
  · rw [List.getElem?_eq_none (by rw [nbs_length]; omega)]
    split
    · rw [if_neg (by rw [nbs_length]; omega)]
    · rw [List.getElem?_eq_none (by rw [nbs_length]; omega)]
theorem nb_mem {cons : Bool} {L : List (Nat × Nat)} {v u : Nat} : u ∈ nb cons L v ↔ (if cons then (u, v) else (v, u)) ∈ L := by
  cases cons <;> simp [nb, ends]
theorem nb_length_le (cons : Bool) (L : List (Nat × Nat)) (v : Nat) : (nb cons L v).length ≤ L.length := by
  simp [nb]
  exact List.length_filter_le _ _
end Go.Proofs.Ytdocdgghphhdpaa

