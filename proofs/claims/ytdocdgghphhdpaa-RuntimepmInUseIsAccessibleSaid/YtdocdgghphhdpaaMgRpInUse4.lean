/- The plain model of the device tree: what Set does, and what stands after each call. -/
import Derived.Test.YtdocdgghphhdpaaMgRpInUse0
import Derived.Test.YtdocdgghphhdpaaMgRpInUse3
import Derived.Test.YtdocdgghphhdpaaBase
import Derived.Test.YtdocdgghphhdpaaMgRpInUse2
namespace Go.Proofs.Ytdocdgghphhdpaa
open Go.RowKit

structure TC where
  nd : Nat
  par : Nat → Int
  rl : Nat → Nat → List Int
  n : Nat
  R : Nat → RailD
  ch : Nat → List Nat
structure TSt where
  st : Nat → Nat
  r : RSt
  clk : Nat
/-- The devices and rails are valid. -/
structure TOk (C : TC) : Prop where
  nd64 : C.nd ≤ 64
  n64 : C.n ≤ 64
  par : ∀ i, i < C.nd → -1 ≤ C.par i ∧ C.par i < (i : Int)
  asc : ∀ i q, ascB (needL (C.rl i) q) = true
  len : ∀ i q, (C.rl i q).length ≤ 64
  rail : ∀ i q, i < C.nd → ∀ v ∈ needL (C.rl i) q, 0 ≤ v ∧ v < (C.n : Int)
  ch : ∀ k, k < C.n → Chn C.n C.R k (C.ch k) ∧ (C.ch k).length ≤ 64
/-- How many devices need rail j. -/
def useN (C : TC) (st : Nat → Nat) (j : Nat) : Nat → Nat
  | 0 => 0
  | i + 1 => useN C st j i + (if (j : Int) ∈ needL (C.rl i) (st i) then 1 else 0)
def useF (C : TC) (st : Nat → Nat) : Nat → Nat := fun j => useN C st j C.nd
def acqF (C : TC) (now : Nat) : List Int → RSt → RSt × List ROp
  | [], s => (s, [])
  | v :: l, s => ((acqF C now l (addC C.R now v.toNat (C.ch v.toNat) { s with clk := now }).1).1, (addC C.R now v.toNat (C.ch v.toNat) { s with clk := now }).2 ++ (acqF C now l (addC C.R now v.toNat (C.ch v.toNat) { s with clk := now }).1).2)
def relF (C : TC) (now : Nat) : List Int → RSt → RSt × List ROp
  | [], s => (s, [])
  | v :: l, s => ((relF C now l (remC C.n C.R now v.toNat (C.ch v.toNat) { s with clk := now }).1).1, (remC C.n C.R now v.toNat (C.ch v.toNat) { s with clk := now }).2 ++ (relF C now l (remC C.n C.R now v.toNat (C.ch v.toNat) { s with clk := now }).1).2)
def acqs (C : TC) (s : TSt) (d k : Nat) : List Int := diffM (needL (C.rl d) k) (needL (C.rl d) (s.st d))
def rels (C : TC) (s : TSt) (d k : Nat) : List Int := (diffM (needL (C.rl d) (s.st d)) (needL (C.rl d) k)).reverse
def setOk (C : TC) (now d k : Nat) (s : TSt) : TSt × List ROp :=
  (⟨rup s.st d k, (relF C now (rels C s d k) (acqF C now (acqs C s d k) s.r).1).1, now⟩, (acqF C now (acqs C s d k) s.r).2 ++ (relF C now (rels C s d k) (acqF C now (acqs C s d k) s.r).1).2)
/-- Set refuses: a parent is deeper, or a child is shallower. -/
def Blocked (C : TC) (s : TSt) (d k : Nat) : Prop := (0 ≤ C.par d ∧ k < s.st (C.par d).toNat) ∨ ∃ i, i < C.nd ∧ C.par i = (d : Int) ∧ s.st i < k
instance (C : TC) (s : TSt) (d k : Nat) : Decidable (Blocked C s d k) := by unfold Blocked; infer_instance
def MaxT : Nat := 1152921504606846976
def setM (C : TC) (now : Nat) (d k : Int) (s : TSt) : TSt × List ROp × Int :=
  if ¬ (0 ≤ d ∧ d < (C.nd : Int)) ∨ ¬ (0 ≤ k ∧ k ≤ 4) ∨ now < s.clk ∨ MaxT < now then (s, [], 1)
  else if Blocked C s d.toNat k.toNat then (s, [], 9)
  else ((setOk C now d.toNat k.toNat s).1, (setOk C now d.toNat k.toNat s).2, 0)
/-- What stands between the calls. -/
structure TInv (C : TC) (s : TSt) : Prop where
  own : Own C.n C.R s.r (useF C s.st)
  clk : s.r.clk ≤ s.clk
  st4 : ∀ i, s.st i ≤ 4
  hier : ∀ i p : Nat, i < C.nd → C.par i = (p : Int) → s.st p ≤ s.st i
section
variable {C : TC} {s : TSt} {r : RSt} {now d k : Nat} {f : Nat → Nat}
theorem RSt.wclk' {n : Nat} {R : Nat → RailD} {s : RSt} {f : Nat → Nat} (h : Own n R s f) (c : Nat) : Own n R { s with clk := c } f := fun j hj => by
  have h1 := h j hj
  have h2 := heldN_congr (R := R) (s := s) (s' := { s with clk := c }) (j := j) (fun i _ => Iff.rfl) n
  rw [← h2]
  exact h1
theorem Own.congr {n : Nat} {R : Nat → RailD} {s : RSt} {f g : Nat → Nat} (h : Own n R s f) (e : ∀ j, j < n → f j = g j) : Own n R s g := fun j hj => by rw [h j hj, e j hj]
theorem Own.le {n : Nat} {R : Nat → RailD} {s : RSt} {f : Nat → Nat} {B : Nat} (h : Own n R s f) (hf : ∀ j, j < n → f j ≤ B) : ∀ j, j < n → s.cnt j ≤ n + B := fun j hj => by
  have h1 := h j hj
  have h2 : ∀ i, heldN R s j i ≤ i := fun i => by
    induction i with
    | zero => exact Nat.le_refl _
    | succ i ih => rw [heldN]; split <;> omega
  have := h2 n
  have := hf j hj
  omega
theorem useN_le (C : TC) (st : Nat → Nat) (j : Nat) : ∀ i, useN C st j i ≤ i
  | 0 => Nat.le_refl _
  | i + 1 => by
    have := useN_le C st j i
    rw [useN]
    split <;> omega
theorem useF_le (C : TC) (st : Nat → Nat) (j : Nat) : useF C st j ≤ C.nd := useN_le C st j C.nd
theorem useN_far {st : Nat → Nat} {j : Nat} : ∀ i, i ≤ d → useN C (rup st d k) j i = useN C st j i
  | 0, _ => rfl
  | i + 1, h => by
    rw [useN, useN, useN_far i (by omega), rup_other (by omega)]
theorem useN_turn {st : Nat → Nat} {j : Nat} : ∀ i, d < i → useN C (rup st d k) j i + (if (j : Int) ∈ needL (C.rl d) (st d) then 1 else 0) = useN C st j i + (if (j : Int) ∈ needL (C.rl d) k then 1 else 0)
  | 0, h => by omega
  | i + 1, h => by
    rw [useN, useN]
    by_cases e : i = d
    · subst e
      rw [useN_far i (Nat.le_refl _), rup_same]
      omega
    · rw [rup_other e]
      have := useN_turn (st := st) (j := j) i (by omega)
      omega
theorem useN_pos {st : Nat → Nat} {j : Nat} (h : (j : Int) ∈ needL (C.rl d) (st d)) : ∀ i, d < i → 1 ≤ useN C st j i
  | 0, hd => by omega
  | i + 1, hd => by
    rw [useN]
    by_cases e : i = d
    · subst e
      rw [if_pos h]
      omega
    · have := useN_pos h i (by omega)
      omega
theorem acq_own (hC : ∀ k, k < C.n → Chn C.n C.R k (C.ch k) ∧ (C.ch k).length ≤ 64) : ∀ {l : List Int} {r : RSt} {f : Nat → Nat}, (∀ v ∈ l, 0 ≤ v ∧ v < (C.n : Int)) → l.Nodup → Own C.n C.R r f → Own C.n C.R (acqF C now l r).1 (fun j => f j + if (j : Int) ∈ l then 1 else 0)
  | [], r, f, _, _, h => h.congr (fun j _ => by simp)
  | v :: l, r, f, hv, hn, h => by
    have h0 := hv v (List.mem_cons_self ..)
    obtain ⟨q, rfl⟩ := Int.eq_ofNat_of_zero_le h0.1
    have hq : q < C.n := by omega
    rw [List.nodup_cons] at hn
    have h1 := add_own (now := now) (hC q hq).1 (RSt.wclk' h now)
    have h2 := acq_own hC (l := l) (fun v hm => hv v (List.mem_cons_of_mem _ hm)) hn.2 h1
    rw [acqF, Int.toNat_natCast]
    refine h2.congr (fun j _ => ?_)
    by_cases e : j = q
    · subst e
      rw [if_pos rfl, if_neg hn.1, if_pos (List.mem_cons_self ..)]
    · have hm : ((j : Int) ∈ (q : Int) :: l) ↔ (j : Int) ∈ l := by
        rw [List.mem_cons]
        constructor
        · rintro (h | h)
          · omega
          · exact h
        · exact Or.inr
      rw [if_neg e]
      simp only [hm]
      omega
theorem rel_own (hC : ∀ k, k < C.n → Chn C.n C.R k (C.ch k) ∧ (C.ch k).length ≤ 64) : ∀ {l : List Int} {r : RSt} {f : Nat → Nat}, (∀ v ∈ l, 0 ≤ v ∧ v < (C.n : Int) ∧ 1 ≤ f v.toNat) → l.Nodup → Own C.n C.R r f → Own C.n C.R (relF C now l r).1 (fun j => f j - if (j : Int) ∈ l then 1 else 0)
  | [], r, f, _, _, h => h.congr (fun j _ => by simp)
  | v :: l, r, f, hv, hn, h => by
    have h0 := hv v (List.mem_cons_self ..)
    obtain ⟨q, rfl⟩ := Int.eq_ofNat_of_zero_le h0.1
    have hq : q < C.n := by omega
    rw [List.nodup_cons] at hn
    have h1 := rem_own (now := now) (hC q hq).1 (RSt.wclk' h now) (by simpa using h0.2.2)
    have h2 := rel_own hC (l := l) (f := fun j => f j - if j = q then 1 else 0) (fun v hm => by
      have := hv v (List.mem_cons_of_mem _ hm)
      refine ⟨this.1, this.2.1, ?_⟩
      have hne : v.toNat ≠ q := fun e => hn.1 (by
        have : v = (q : Int) := by omega
        rw [← this]; exact hm)
      simp only [if_neg hne]
      omega) hn.2 h1
    rw [relF, Int.toNat_natCast]
    refine h2.congr (fun j _ => ?_)
    by_cases e : j = q
    · subst e
      rw [if_pos rfl, if_neg hn.1, if_pos (List.mem_cons_self ..)]
      omega
    · have hm : ((j : Int) ∈ (q : Int) :: l) ↔ (j : Int) ∈ l := by
        rw [List.mem_cons]
        constructor
        · rintro (h | h)
          · omega
          · exact h
        · exact Or.inr
      rw [if_neg e]
      simp only [hm]
      omega
theorem asc_nodup {l : List Int} (h : ascB l = true) : l.Nodup := (asc_of h).imp (fun h => by omega)
theorem diff_nodup {l u : List Int} (h : l.Nodup) : (diffM l u).Nodup := h.filter _
theorem diff_mem {l u : List Int} {v : Int} : v ∈ diffM l u ↔ v ∈ l ∧ v ∉ u := by simp [diffM]
theorem acqs_ok (hC : TOk C) (hd : d < C.nd) : (∀ v ∈ acqs C s d k, 0 ≤ v ∧ v < (C.n : Int)) ∧ (acqs C s d k).Nodup :=
  ⟨fun v hv => hC.rail d _ hd v (diff_mem.1 hv).1, diff_nodup (asc_nodup (hC.asc d _))⟩
theorem rels_ok (hC : TOk C) (hd : d < C.nd) : (∀ v ∈ rels C s d k, 0 ≤ v ∧ v < (C.n : Int) ∧ 1 ≤ useF C s.st v.toNat) ∧ (rels C s d k).Nodup := by
  refine ⟨fun v hv => ?_, (List.reverse_perm _).nodup_iff.2 (diff_nodup (asc_nodup (hC.asc d _)))⟩
  have hm := (diff_mem.1 (List.mem_reverse.1 hv)).1
  have hb := hC.rail d _ hd v hm
  refine ⟨hb.1, hb.2, useN_pos (d := d) ?_ C.nd hd⟩
  rw [Int.toNat_of_nonneg hb.1]
  exact hm
/-- The rails' counts match the states after Set. -/
theorem set_own (hC : TOk C) (hd : d < C.nd) (h : Own C.n C.R s.r (useF C s.st)) : Own C.n C.R (setOk C now d k s).1.r (useF C (setOk C now d k s).1.st) := by
  obtain ⟨a1, a2⟩ := acqs_ok (s := s) (k := k) hC hd
  obtain ⟨b1, b2⟩ := rels_ok (s := s) (k := k) hC hd
  have h1 := acq_own (now := now) hC.ch a1 a2 h
  have h2 := rel_own (now := now) hC.ch (l := rels C s d k) (fun v hv => ⟨(b1 v hv).1, (b1 v hv).2.1, by have := (b1 v hv).2.2; omega⟩) b2 h1
  refine h2.congr (fun j hj => ?_)
  have ht := useN_turn (C := C) (d := d) (k := k) (st := s.st) (j := j) C.nd hd
  show _ = useN C (rup s.st d k) j C.nd
  have ea : ((j : Int) ∈ acqs C s d k) ↔ ((j : Int) ∈ needL (C.rl d) k ∧ (j : Int) ∉ needL (C.rl d) (s.st d)) := diff_mem
  have eb : ((j : Int) ∈ rels C s d k) ↔ ((j : Int) ∈ needL (C.rl d) (s.st d) ∧ (j : Int) ∉ needL (C.rl d) k) := List.mem_reverse.trans diff_mem
  have hp := fun hm => useN_pos (C := C) (d := d) (st := s.st) (j := j) hm C.nd hd
  have hu : useF C s.st j = useN C s.st j C.nd := rfl
  by_cases x : (j : Int) ∈ needL (C.rl d) k <;> by_cases y : (j : Int) ∈ needL (C.rl d) (s.st d)
  · simp only [ea, eb, x, y, not_true, and_false, if_false, if_true] at ht ⊢
    omega
  · simp only [ea, eb, x, y, not_false_eq_true, not_true, and_true, and_false, if_false, if_true] at ht ⊢
    omega
  · have := hp y
    simp only [ea, eb, x, y, not_false_eq_true, not_true, and_true, and_false, if_false, if_true] at ht ⊢
    omega
  · simp only [ea, eb, x, y, not_false_eq_true, false_and, if_false] at ht ⊢
    omega
theorem acq_clk : ∀ {l : List Int} {r : RSt}, (acqF C now l r).1.clk = r.clk ∨ (acqF C now l r).1.clk = now
  | [], _ => .inl rfl
  | v :: l, r => by
    rw [acqF]
    rcases acq_clk (l := l) (r := (addC C.R now v.toNat (C.ch v.toNat) { r with clk := now }).1) with h | h
    · rw [add_clk] at h
      exact .inr h
    · exact .inr h
theorem rel_clk : ∀ {l : List Int} {r : RSt}, (relF C now l r).1.clk = r.clk ∨ (relF C now l r).1.clk = now
  | [], _ => .inl rfl
  | v :: l, r => by
    rw [relF]
    rcases rel_clk (l := l) (r := (remC C.n C.R now v.toNat (C.ch v.toNat) { r with clk := now }).1) with h | h
    · rw [rem_clk] at h
      exact .inr h
    · exact .inr h
theorem set_inv (hC : TOk C) (h : TInv C s) (hd : d < C.nd) (hk : k ≤ 4) (hn : s.clk ≤ now) (hb : ¬ Blocked C s d k) : TInv C (setOk C now d k s).1 := by
  refine ⟨set_own hC hd h.own, ?_, fun i => ?_, fun i p hi hp => ?_⟩
  · show (relF C now (rels C s d k) (acqF C now (acqs C s d k) s.r).1).1.clk ≤ now
    have h0 := h.clk
    rcases rel_clk (C := C) (now := now) (l := rels C s d k) (r := (acqF C now (acqs C s d k) s.r).1) with h1 | h1
    · rcases acq_clk (C := C) (now := now) (l := acqs C s d k) (r := s.r) with h2 | h2
      · omega
      · omega
    · omega
  · show rup s.st d k i ≤ 4
    by_cases e : i = d
    · subst e; rw [rup_same]; exact hk
    · rw [rup_other e]; exact h.st4 i
  · show rup s.st d k p ≤ rup s.st d k i
    have hp2 := hC.par i hi
    have hpi : p ≠ i := by omega
    by_cases e : i = d
    · subst e
      rw [rup_same, rup_other hpi]
      refine Nat.le_of_not_lt (fun hlt => hb (.inl ⟨by omega, ?_⟩))
      rw [hp, Int.toNat_natCast]
      exact hlt
    · rw [rup_other e]
      by_cases e2 : p = d
      · subst e2
        rw [rup_same]
        exact Nat.le_of_not_lt (fun hlt => hb (.inr ⟨i, hi, hp, hlt⟩))
      · rw [rup_other e2]
        exact h.hier i p hi hp
theorem setM_inv (hC : TOk C) (h : TInv C s) (d k : Int) : TInv C (setM C now d k s).1 := by
  unfold setM
  split
  · exact h
  · rename_i h1
    split
    · exact h
    · rename_i h2
      simp only [not_or, Decidable.not_not, Nat.not_lt] at h1
      exact set_inv hC h (by omega) (by omega) h1.2.2.1 h2
end
end Go.Proofs.Ytdocdgghphhdpaa

/- A row that the walk owns, known by the list that its block begins with. -/
namespace Go.Proofs.Ytdocdgghphhdpaa
open Go.RowKit
/-- The list lies at the beginning of a block's cells. -/
def Pre (cur : Array Value) (xs : List Value) : Prop := ∀ (i : Nat) (u : Value), xs[i]? = some u → cur[i]? = some u
theorem Pre.set_ {cur : Array Value} {xs : List Value} (h : Pre cur xs) (i : Nat) (u : Value) : Pre (cur.setIfInBounds i u) (xs.set i u) := by
  intro j v hv
  rw [List.getElem?_set] at hv
  rw [Array.getElem?_setIfInBounds]
  by_cases e : i = j
  · rw [if_pos e] at hv ⊢
    by_cases e2 : i < xs.length
    · have h1 := h i _ (List.getElem?_eq_getElem e2)
      have h2 : i < cur.size := (Array.getElem?_eq_some_iff.1 h1).1
      rw [if_pos e2] at hv
      rw [if_pos h2]
      exact hv
    · rw [if_neg e2] at hv
      cases hv
  · rw [if_neg e] at hv ⊢
    exact h j v hv
/-- A block whose cells begin with the list. -/
def OwnR (w : World) (g : Nat) (t : TypeId) (xs : List Value) : Prop := ∃ cur, Blk w g t cur ∧ Pre cur xs
section
variable {w w' : World} {g : Nat} {t : TypeId} {xs : List Value} {S : List Nat}
theorem OwnR.lt (h : OwnR w g t xs) : g < w.heap.size := by
  obtain ⟨cur, h1, _⟩ := h
  exact h1.lt
theorem OwnR.cell (h : OwnR w g t xs) {i : Nat} {u : Value} (hi : xs[i]? = some u) : w.cell? ⟨g, i, none⟩ = some u := by
  obtain ⟨cur, h1, h2⟩ := h
  exact (h1.cell i).trans (h2 i u hi)
theorem OwnR.frozen (h : OwnR w g t xs) (i : Nat) : w.frozen? ⟨g, i, none⟩ = false := by
  obtain ⟨cur, h1, _⟩ := h
  exact h1.frozen i
theorem OwnR.set_ (h : OwnR w g t xs) (i : Nat) (u : Value) : OwnR (w.setCell ⟨g, i, none⟩ u) g t (xs.set i u) := by
  obtain ⟨cur, h1, h2⟩ := h
  exact ⟨_, h1.set_ i u, h2.set_ i u⟩
theorem OwnR.fr0 (h : OwnR w g t xs) (k : Fr [] w w') : OwnR w' g t xs := by
  obtain ⟨cur, h1, h2⟩ := h
  exact ⟨cur, h1.fr k (by simp), h2⟩
theorem OwnR.row (h : OwnR w g t xs) : Row w (some ⟨g, 0, none⟩) xs := fun _ => ⟨g, 0, rfl, fun i u hi => by
  rw [Nat.zero_add]
  exact h.cell hi⟩
theorem OwnR.drop (h : OwnR w g t xs) (m : Nat) : Row w (some ⟨g, m, none⟩) (xs.drop m) := fun _ => ⟨g, m, rfl, fun i u hi => by
  rw [List.getElem?_drop] at hi
  exact h.cell hi⟩
theorem own_cut {base : Nat} {size : Nat} {v : Value} {n : Nat} (h : w.ownsRow base t size v n xs) (hn : 0 < n) :
    ∃ g cp, v = .slice (some ⟨g, 0, none⟩) n cp ∧ n ≤ cp ∧ base ≤ g ∧ OwnR w g t xs := by
  have hl := h.1
  rcases h.2 with ⟨h0, h1⟩ | ⟨g, cap, cur, hv, hb, hh, hnc, _, hcur, hx⟩
  · omega
  · refine ⟨g, cap, hv, hnc, hb, cur, hh, fun i u hi => ?_⟩
    rw [← hx, List.getElem?_take] at hi
    split at hi
    · simpa using hi
    · cases hi
end
end Go.Proofs.Ytdocdgghphhdpaa

/- Rails in memory. -/
namespace Go.Proofs.Ytdocdgghphhdpaa
open Go.RowKit

abbrev rv (n : Nat) : Value := .int .u64 (n : Int)
/-- Only blocks of T and blocks from base on may have turned. -/
def FrX (T : List Nat) (base : Nat) (w w' : World) : Prop := ∃ S : List Nat, (∀ y ∈ S, y ∈ T ∨ base ≤ y) ∧ Fr S w w'
section
variable {T T' : List Nat} {base : Nat} {a w w' : World}
theorem FrX.of_fr (h : Fr [] w w') : FrX T base w w' := ⟨[], by simp, h⟩
theorem FrX.refl (T : List Nat) (base : Nat) (w : World) : FrX T base w w := .of_fr (Fr.refl _ _)
theorem FrX.trans (h : FrX T base a w) (k : FrX T base w w') : FrX T base a w' := by
  obtain ⟨S, hs, hf⟩ := h
  obtain ⟨S', hs', hf'⟩ := k
  refine ⟨S ++ S', fun y hy => ?_, (hf.mono (fun _ _ h => List.mem_append_left _ h)).trans (hf'.mono (fun _ _ h => List.mem_append_right _ h))⟩
  rcases List.mem_append.1 hy with h1 | h1
  · exact hs y h1
  · exact hs' y h1
theorem FrX.call (h : FrX T base a w) (k : Fr [] w w') : FrX T base a w' := h.trans (.of_fr k)
theorem FrX.mono (h : FrX T base w w') (hT : ∀ y ∈ T, y ∈ T') : FrX T' base w w' := by
  obtain ⟨S, hs, hf⟩ := h
  exact ⟨S, fun y hy => (hs y hy).imp_left (hT y), hf⟩
theorem FrX.low (h : FrX T base w w') {b : Nat} (hb : b ≤ base) : FrX T b w w' := by
  obtain ⟨S, hs, hf⟩ := h
  exact ⟨S, fun y hy => (hs y hy).imp_right (fun h => Nat.le_trans hb h), hf⟩
theorem FrX.set (h : FrX T base a w) {p : Addr} (hp : p.block ∈ T) (u : Value) : FrX T base a (w.setCell p u) :=
  h.trans ⟨[p.block], fun y hy => .inl (by rw [List.mem_singleton.1 hy]; exact hp), (Fr.refl _ _).set (.inl (by simp)) _⟩
theorem FrX.size (h : FrX T base w w') : w.heap.size ≤ w'.heap.size := by
  obtain ⟨S, _, hf⟩ := h
  exact hf.size
/-- What lies below base and off T stands. -/
theorem FrX.stand (h : FrX T base w w') {g : Nat} {t : TypeId} {cs : Array Value} (hb : Blk w g t cs) (hg : g < base) (hT : g ∉ T) : Blk w' g t cs := by
  obtain ⟨S, hs, hf⟩ := h
  exact hb.fr hf (fun hm => (hs g hm).elim hT (fun h => by omega))
theorem FrX.row (h : FrX T base w w') {A : Option Addr} {xs : List Value} (hr : Row w A xs) (hlow : ∀ ad, A = some ad → ad.block < base ∧ ad.block ∉ T) : Row w' A xs := by
  obtain ⟨S, hs, hf⟩ := h
  refine hr.fr hf (fun ad e hm => ?_)
  obtain ⟨h1, h2⟩ := hlow ad e
  exact (hs _ hm).elim h2 (fun h => by omega)
theorem FrX.own (h : FrX T base w w') {b : Nat} {e : TypeId} {size n : Nat} {v : Value} {xs : List Value} (ho : w.ownsRow b e size v n xs) (hlow : ∀ g, v.ownBlock = some g → g < base ∧ g ∉ T) : w'.ownsRow b e size v n xs := by
  obtain ⟨S, hs, hf⟩ := h
  refine own_fr ho hf (fun g hg hm => ?_)
  obtain ⟨h1, h2⟩ := hlow g hg
  exact (hs _ hm).elim h2 (fun h => by omega)
theorem FrX.fr (h : FrX T base w w') (hb : w.heap.size ≤ base) : Fr T w w' := by
  obtain ⟨S, hs, hf⟩ := h
  exact hf.mono (fun k hk hm => (hs k hm).elim id (fun h => by omega))
end
structure RP where
  b : Nat
  A : Option Addr
  ca : Nat
  gB : Nat
  cb : Nat
  gC : Nat
  cc : Nat
  n : Nat
def rlc (x : RailD) : List Value := [.int .i64 x.sup, rv x.up, rv x.dn]
theorem rlc_len (x : RailD) : (rlc x).length = 3 := rfl
def rlcs (R : Nat → RailD) (n : Nat) : List Value := (List.range n).flatMap fun i => rlc (R i)
def ropc (x : ROp) : List Value := [.int .i64 (x.rail : Int), .bool x.on, rv x.st, rv x.dn]
def ropcs (l : List ROp) : List Value := l.flatMap ropc
theorem ropcs_snoc (l : List ROp) (x : ROp) : ropcs (l ++ [x]) = ropcs l ++ [.int .i64 (x.rail : Int), .bool x.on, rv x.st, rv x.dn] := by simp [ropcs, ropc]
/-- The rails lie in memory. -/
structure RlAt (w : World) (P : RP) (R : Nat → RailD) (s : RSt) : Prop where
  blk : Blk w P.b 176 #[.slice P.A P.n P.ca, .slice (some ⟨P.gB, 0, none⟩) P.n P.cb, .slice (some ⟨P.gC, 0, none⟩) P.n P.cc, rv s.clk]
  row : Row w P.A (rlcs R P.n)
  cnt : FA w P.gB 3 nv P.n s.cnt
  dn : FA w P.gC 33 rv P.n s.dn
  off : Off P.A [P.b, P.gB, P.gC]
  low : ∀ ad, P.A = some ad → ad.block < w.heap.size
  n64 : P.n ≤ 64
section
variable {w w' : World} {P : RP} {R : Nat → RailD} {s : RSt} {S : List Nat}
theorem RlAt.ne (h : RlAt w P R s) : P.b ≠ P.gB ∧ P.b ≠ P.gC ∧ P.gB ≠ P.gC :=
  ⟨Blk.ne_ h.blk h.cnt (by decide), Blk.ne_ h.blk h.dn (by decide), Blk.ne_ h.cnt h.dn (by decide)⟩
theorem RlAt.lt (h : RlAt w P R s) : P.b < w.heap.size ∧ P.gB < w.heap.size ∧ P.gC < w.heap.size := ⟨h.blk.lt, h.cnt.lt, h.dn.lt⟩
theorem RlAt.fr (h : RlAt w P R s) (k : Fr S w w') (hS : ∀ g ∈ S, g ≠ P.b ∧ g ≠ P.gB ∧ g ≠ P.gC ∧ ∀ ad, P.A = some ad → g ≠ ad.block) : RlAt w' P R s where
  blk := h.blk.fr k (fun hm => (hS _ hm).1 rfl)
  row := h.row.fr k (fun ad e hm => (hS _ hm).2.2.2 ad e rfl)
  cnt := h.cnt.fr k (fun hm => (hS _ hm).2.1 rfl)
  dn := h.dn.fr k (fun hm => (hS _ hm).2.2.1 rfl)
  off := h.off
  low := fun ad e => Nat.lt_of_lt_of_le (h.low ad e) k.size
  n64 := h.n64
theorem RlAt.fr0 (h : RlAt w P R s) (k : Fr [] w w') : RlAt w' P R s := h.fr k (fun _ hm => by cases hm)
/-- All blocks lie below base. -/
def RlLow (P : RP) (base : Nat) : Prop := P.b < base ∧ P.gB < base ∧ P.gC < base ∧ ∀ ad, P.A = some ad → ad.block < base
theorem RlAt.lowAt (h : RlAt w P R s) : RlLow P w.heap.size := ⟨h.lt.1, h.lt.2.1, h.lt.2.2, h.low⟩
theorem RlAt.frGe (h : RlAt w P R s) (k : Fr S w w') {base : Nat} (hl : RlLow P base) (hS : ∀ g ∈ S, base ≤ g) : RlAt w' P R s :=
  h.fr k (fun g hg => by
    obtain ⟨h1, h2, h3, h4⟩ := hl
    have := hS g hg
    refine ⟨by omega, by omega, by omega, fun ad e => ?_⟩
    have := h4 ad e
    omega)
theorem RlAt.setCnt (h : RlAt w P R s) (k v : Nat) : RlAt (w.setCell ⟨P.gB, k, none⟩ (.int .i64 (v : Int))) P R { s with cnt := rup s.cnt k v } where
  blk := h.blk.far h.ne.1 _
  row := h.row.fr ((Fr.refl [P.gB] _).set (.inl (by simp)) _) (fun ad e hm => h.off ad e (by simp at hm; simp [hm]))
  cnt := h.cnt.set_ k v
  dn := h.dn.far h.ne.2.2.symm _
  off := h.off
  low := fun ad e => by simpa [World.setCell] using h.low ad e
  n64 := h.n64
theorem RlAt.setDn (h : RlAt w P R s) (k v : Nat) : RlAt (w.setCell ⟨P.gC, k, none⟩ (.int .u64 (v : Int))) P R { s with dn := rup s.dn k v } where
  blk := h.blk.far h.ne.2.1 _
  row := h.row.fr ((Fr.refl [P.gC] _).set (.inl (by simp)) _) (fun ad e hm => h.off ad e (by simp at hm; simp [hm]))
  cnt := h.cnt.far h.ne.2.2 _
  dn := h.dn.set_ k v
  off := h.off
  low := fun ad e => by simpa [World.setCell] using h.low ad e
  n64 := h.n64
theorem RlAt.setClk (h : RlAt w P R s) (v : Nat) : RlAt (w.setCell ⟨P.b, 3, none⟩ (.int .u64 (v : Int))) P R { s with clk := v } where
  blk := h.blk.set_ 3 _
  row := h.row.fr ((Fr.refl [P.b] _).set (.inl (by simp)) _) (fun ad e hm => h.off ad e (by simp at hm; simp [hm]))
  cnt := h.cnt.far h.ne.1.symm _
  dn := h.dn.far h.ne.2.1.symm _
  off := h.off
  low := fun ad e => by simpa [World.setCell] using h.low ad e
  n64 := h.n64
theorem RlAt.cells (h : RlAt w P R s) : w.cell? ⟨P.b, 0, none⟩ = some (.slice P.A P.n P.ca) ∧ w.cell? ⟨P.b, 1, none⟩ = some (.slice (some ⟨P.gB, 0, none⟩) P.n P.cb) ∧ w.cell? ⟨P.b, 2, none⟩ = some (.slice (some ⟨P.gC, 0, none⟩) P.n P.cc) ∧ w.cell? ⟨P.b, 3, none⟩ = some (.int .u64 (s.clk : Int)) :=
  ⟨h.blk.cell 0, h.blk.cell 1, h.blk.cell 2, h.blk.cell 3⟩
theorem RlAt.cntAt (h : RlAt w P R s) {k : Nat} (hk : k < P.n) : w.cell? ⟨P.gB, k, none⟩ = some (.int .i64 (s.cnt k : Int)) := h.cnt.cell hk
theorem RlAt.dnAt (h : RlAt w P R s) {k : Nat} (hk : k < P.n) : w.cell? ⟨P.gC, k, none⟩ = some (.int .u64 (s.dn k : Int)) := h.dn.cell hk
theorem RlAt.rail (h : RlAt w P R s) {k : Nat} (hk : k < P.n) : ∃ ob oo, P.A = some ⟨ob, oo, none⟩ ∧ w.cell? ⟨ob, oo + k * 3, none⟩ = some (.int .i64 (R k).sup) ∧ w.cell? ⟨ob, oo + k * 3 + 1, none⟩ = some (.int .u64 ((R k).up : Int)) ∧ w.cell? ⟨ob, oo + k * 3 + 2, none⟩ = some (.int .u64 ((R k).dn : Int)) := by
  obtain ⟨ob, oo, e, hc⟩ := Row.el (f := fun i => rlc (R i)) (l := List.range P.n) (i := k) (a := k) (fun i => rlc_len (R i)) (by omega) h.row (by simp [hk])
  exact ⟨ob, oo, e, hc 0 _ rfl, hc 1 _ rfl, hc 2 _ rfl⟩
end
end Go.Proofs.Ytdocdgghphhdpaa

